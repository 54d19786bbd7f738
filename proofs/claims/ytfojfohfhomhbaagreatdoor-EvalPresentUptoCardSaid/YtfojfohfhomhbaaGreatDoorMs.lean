/- What the second form's bound gives. The arguments as they lie in memory: a filter's node, an entry. The arguments as they lie in memory, whole. -/
import Derived.Test.YtfojfohfhomhbaaGreatDoorRows
import Derived.Test.YtfojfohfhomhbaaGreatDoorMb
import Derived.Test.YtfojfohfhomhbaaGreatDoorMr
import Derived.Deep.Strs
import Derived.ProofKit
namespace Go.Proofs.YtfojfohfhomhbaaGreatDoor

theorem bulk_one {H : Type} (d : DataW H) : 1 ≤ Rows.uptoBulk d := by
  cases d with
  | lit l => cases l <;> simp [Rows.uptoBulk]
  | nil => simp [Rows.uptoBulk]
  | ptr d => simp [Rows.uptoBulk]
  | slice elems spare => simp [Rows.uptoBulk]
  | agg parts => simp [Rows.uptoBulk]
  | iface t d => simp [Rows.uptoBulk]
  | map entries => simp [Rows.uptoBulk]
  | held h => simp [Rows.uptoBulk]
theorem bulk_part {H : Type} {d : DataW H} {l : List (DataW H)} (h : d ∈ l) : Rows.uptoBulk d ≤ Rows.uptoBulkAll l := by
  induction l with
  | nil => cases h
  | cons x r ih =>
    simp only [Rows.uptoBulkAll]
    cases List.mem_cons.1 h with
    | inl e => subst e; omega
    | inr e => have := ih e; omega
theorem bulk_length {H : Type} (l : List (DataW H)) : l.length ≤ Rows.uptoBulkAll l := by
  induction l with
  | nil => simp [Rows.uptoBulkAll]
  | cons x r ih => have := bulk_one x; simp only [Rows.uptoBulkAll, List.length_cons]; omega
theorem bulk_slice {H : Type} (elems spare : List (DataW H)) : Rows.uptoBulkAll elems + 1 ≤ Rows.uptoBulk (.slice elems spare) := by
  simp only [Rows.uptoBulk]; omega
theorem bulk_str {H : Type} (bytes : List UInt8) : Rows.uptoBulk (DataW.lit (H := H) (.string bytes)) = bytes.length + 1 := by
  simp [Rows.uptoBulk]
theorem bulk_agg {H : Type} (l : List (DataW H)) : Rows.uptoBulk (.agg l) = Rows.uptoBulkAll l + 1 := by simp [Rows.uptoBulk]
theorem bulk_bound {H : Type} {l : List (DataW H)} (hk : Rows.uptoSmall H l = true) : Rows.uptoBulkAll l ≤ 1048576 := of_decide_eq_true hk
/-- So many values in a row of attributes as its bulk at the most. -/
theorem bulk_tot {H : Type} {ι : Type} (f : ι → AttrD) (D : ι → DataW H) : ∀ l : List ι, (∀ i ∈ l, (f i).vals.length ≤ Rows.uptoBulk (D i)) → totV (l.map f) ≤ Rows.uptoBulkAll (l.map D)
  | [], _ => by simp [totV, Rows.uptoBulkAll]
  | i :: l, h => by
    have ih := bulk_tot f D l fun j hj => h j (List.mem_cons_of_mem _ hj)
    have h0 := h i List.mem_cons_self
    simp only [List.map_cons, totV, Rows.uptoBulkAll]
    omega
end Go.Proofs.YtfojfohfhomhbaaGreatDoor

namespace Go.Proofs.YtfojfohfhomhbaaGreatDoor
open Go.RowKit Go.ChangeShapes Go.WideShapes Go.Deep

theorem array9 {cs : Array Value} (h : cs.size = 9) : ∃ a b c d e f g i j, cs = #[a, b, c, d, e, f, g, i, j] := by
  obtain ⟨l⟩ := cs
  match l, h with
  | [a, b, c, d, e, f, g, i, j], _ => exact ⟨a, b, c, d, e, f, g, i, j, rfl⟩
theorem array4v {cs : Array Value} (h : cs.size = 4) : ∃ a b c d, cs = #[a, b, c, d] := by
  obtain ⟨l⟩ := cs
  match l, h with
  | [a, b, c, d], _ => exact ⟨a, b, c, d, rfl⟩
theorem cells9 : Tryz.prog.cellsOf 9 = 1 := by kernel_rfl
theorem cells41 : Tryz.prog.cellsOf 41 = 3 := by kernel_rfl
theorem cells23 : Tryz.prog.cellsOf 23 = 1 := by kernel_rfl
theorem cells28 : Tryz.prog.cellsOf 28 = 1 := by kernel_rfl
theorem cells25 : Tryz.prog.cellsOf 25 = 3 := by kernel_rfl
theorem cells27 : Tryz.prog.cellsOf 27 = 9 := by kernel_rfl
theorem cells30 : Tryz.prog.cellsOf 30 = 4 := by kernel_rfl
theorem cells3 : Tryz.prog.cellsOf 3 = 1 := by kernel_rfl
theorem cells22 : Tryz.prog.cellsOf 22 = 1 := by kernel_rfl
theorem cells4 : Tryz.prog.cellsOf 4 = 1 := by kernel_rfl

section
variable {H : Type} {enc : TypeId × Value → H} {W : World} {base : Nat} {spare : Nat → Bool} {held : Bool}

/-- A list of texts. -/
theorem openL {fuel : Nat} {v : Value} {x : DataW H × List MemPlace} (h : DataW.trod enc Tryz.prog W base spare held fuel 23 [v] = some x) :
    ∃ (A : Option Addr) (n c : Nat) (L : List ByteArray), v = .slice A n c ∧ SlOk A n c ∧ Rd W W.heap.size 1 A n (sv L) ∧ L.length = n ∧ n ≤ Rows.uptoBulk x.1 := by
  rcases open_strs Tryz.underlying23 Tryz.underlying9 cells9 h with ⟨e, rfl⟩ | ⟨a, len, cap, m, Sx, e, _, hl, _, hm, rfl, hc⟩
  · injection e with e _
    exact ⟨none, 0, 0, [], e, ⟨Nat.le_refl _, fun _ => rfl⟩, ⟨rfl, fun h0 => absurd h0 (Nat.lt_irrefl _)⟩, rfl, Nat.zero_le _⟩
  · injection e with e _
    have hml : len ≤ m := by rw [hm]; split <;> omega
    refine ⟨some a, len, cap, (List.range len).map Sx, e, ⟨hl, fun e => by cases e⟩, ⟨by simp, fun h0 => ⟨a, rfl, ?_, fun j u hu => ?_⟩⟩, by simp, ?_⟩
    · exact World.block_lt_of_cell? _ _ (by have := (hc 0 (by omega)).1; rwa [show a.add 0 = a from rfl] at this)
    · simp only [sv, List.map_map, List.getElem?_map] at hu
      obtain ⟨i, hi, rfl⟩ := Option.map_eq_some_iff.1 hu
      obtain ⟨hi1, hi2⟩ := List.getElem?_eq_some_iff.1 hi
      simp at hi1 hi2
      subst hi2
      exact (hc j (by omega)).1
    · have h1 := bulk_slice (H := H) ((List.range len).map fun i => .lit (.string (Sx i).data.toList)) ((List.range (m - len)).map fun j => .lit (.string (Sx (len + j)).data.toList))
      have h2 := bulk_length (H := H) ((List.range len).map fun i => .lit (.string (Sx i).data.toList))
      simp only [List.length_map, List.length_range] at h2
      show len ≤ Rows.uptoBulk (DataW.slice _ _)
      omega
theorem strLen (s : ByteArray) : s.data.toList.length = s.size := Array.length_toList

set_option maxRecDepth 100000 in
/-- One attribute: its three cells. -/
theorem openAttr {fuel : Nat} {cs : List Value} {x : DataW H × List MemPlace} (h : DataW.trod enc Tryz.prog W base spare held fuel 41 cs = some x) :
    ∃ (a : AttrD) (B : Option Addr) (m c : Nat), cs = [.string a.desc, .string a.canon, .slice B m c] ∧ SlOk B m c ∧ Rd W W.heap.size 1 B m (sv a.vals) ∧ a.vals.length ≤ Rows.uptoBulk x.1 ∧ a.canon.size ≤ Rows.uptoBulk x.1 := by
  obtain ⟨y0, y1, y2, n, rfl, hl, h0, h1, h2⟩ := trod_struct3 Tryz.underlying41 h
  rw [cells41] at hl
  match cs, hl with
  | [c0, c1, c2], _ =>
    have h0' : DataW.trod enc Tryz.prog W base spare held n 9 [c0] = some y0 := by simpa [cells9] using h0
    have h1' : DataW.trod enc Tryz.prog W base spare held n 9 [c1] = some y1 := by simpa [cells9] using h1
    have h2' : DataW.trod enc Tryz.prog W base spare held n 23 [c2] = some y2 := by simpa [cells23] using h2
    obtain ⟨s0, e0, rfl, _⟩ := DataW.trod_string Tryz.underlying9 h0'
    obtain ⟨s1, e1, rfl, _⟩ := DataW.trod_string Tryz.underlying9 h1'
    obtain ⟨B, m, c, V, rfl, hok, hr, hvl, hb⟩ := openL h2'
    injection e0 with e0 _
    injection e1 with e1 _
    subst e0
    subst e1
    refine ⟨⟨s0, s1, V⟩, B, m, c, rfl, hok, hr, ?_, ?_⟩
    · have := bulk_part (H := H) (d := y2.1) (l := [.lit (.string s0.data.toList), .lit (.string s1.data.toList), y2.1]) (by simp)
      rw [bulk_agg]
      show V.length ≤ Rows.uptoBulkAll (H := H) [.lit (.string s0.data.toList), .lit (.string s1.data.toList), y2.1] + 1
      omega
    · have := bulk_part (H := H) (d := .lit (.string s1.data.toList)) (l := [.lit (.string s0.data.toList), .lit (.string s1.data.toList), y2.1]) (by simp)
      rw [bulk_str, strLen] at this
      rw [bulk_agg]
      show s1.size ≤ Rows.uptoBulkAll (H := H) [.lit (.string s0.data.toList), .lit (.string s1.data.toList), y2.1] + 1
      omega

/-- The attributes of an entry. -/
theorem openAs {fuel : Nat} {v : Value} {x : DataW H × List MemPlace} (h : DataW.trod enc Tryz.prog W base spare held fuel 28 [v] = some x) :
    ∃ (A : Option Addr) (n c : Nat) (L : List AttrD), v = .slice A n c ∧ AttrsAt W W.heap.size A n L ∧ totV L ≤ Rows.uptoBulk x.1 ∧ n ≤ Rows.uptoBulk x.1 ∧ (∀ a ∈ L, a.vals.length ≤ Rows.uptoBulk x.1) ∧ ∀ a ∈ L, a.canon.size ≤ Rows.uptoBulk x.1 := by
  rcases open_slice Tryz.underlying28 h with ⟨e, rfl⟩ | ⟨a, len, cap, m, n, D, Pl, e, _, hl, _, hm, rfl, hc⟩
  · injection e with e _
    exact ⟨none, 0, 0, [], e, ⟨rfl, fun h0 => absurd h0 (Nat.lt_irrefl _)⟩, Nat.zero_le _, Nat.zero_le _, (fun a ha => by cases ha), (fun a ha => by cases ha)⟩
  · injection e with e _
    have hml : len ≤ m := by rw [hm]; split <;> omega
    obtain ⟨f, hf⟩ := choose_lt (α := AttrD) (n := len) (p := fun i b => AttrAt W W.heap.size a i b ∧ b.vals.length ≤ Rows.uptoBulk (D i) ∧ b.canon.size ≤ Rows.uptoBulk (D i) ∧ a.block < W.heap.size) (fun i hi => by
      obtain ⟨cs', h1, h2⟩ := hc i (by omega)
      obtain ⟨b, B, k, c, rfl, hok, hr, hb1, hb2⟩ := openAttr h2
      rw [cells41] at h1
      obtain ⟨_, _, hcell⟩ := World.cells?_some h1
      have q0 := hcell 0 (by omega)
      have q1 := hcell 1 (by omega)
      have q2 := hcell 2 (by omega)
      refine ⟨b, ⟨q0, ?_, B, k, c, ?_, hok, hr⟩, hb1, hb2, ?_⟩
      · rw [addAdd] at q1; exact q1
      · rw [addAdd] at q2; exact q2
      · have := World.block_lt_of_cell? _ _ q0
        rw [addBlock, addBlock] at this
        exact this)
    have h1 := bulk_slice (H := H) ((List.range len).map D) ((List.range (m - len)).map fun j => D (len + j))
    have hpart : ∀ i, i < len → Rows.uptoBulk (D i) ≤ Rows.uptoBulkAll ((List.range len).map D) := fun i hi => bulk_part (List.mem_map.2 ⟨i, List.mem_range.2 hi, rfl⟩)
    refine ⟨some a, len, cap, (List.range len).map f, e, ⟨by simp, fun h0 => ⟨a, rfl, (hf 0 h0).2.2.2, fun j hj => ?_⟩⟩, ?_, ?_, fun b hb => ?_, fun b hb => ?_⟩
    · simp only [List.length_map, List.length_range] at hj
      simp only [List.getElem_map, List.getElem_range]
      exact (hf j hj).1
    · have h2 := bulk_tot f D (List.range len) fun i hi => (hf i (List.mem_range.1 hi)).2.1
      show _ ≤ Rows.uptoBulk (DataW.slice _ _)
      omega
    · have h2 := bulk_length (H := H) ((List.range len).map D)
      simp only [List.length_map, List.length_range] at h2
      show _ ≤ Rows.uptoBulk (DataW.slice _ _)
      omega
    · obtain ⟨i, hi, rfl⟩ := List.mem_map.1 hb
      have h2 := (hf i (List.mem_range.1 hi)).2.1
      have h3 := hpart i (List.mem_range.1 hi)
      show _ ≤ Rows.uptoBulk (DataW.slice _ _)
      omega
    · obtain ⟨i, hi, rfl⟩ := List.mem_map.1 hb
      have h2 := (hf i (List.mem_range.1 hi)).2.2.1
      have h3 := hpart i (List.mem_range.1 hi)
      show _ ≤ Rows.uptoBulk (DataW.slice _ _)
      omega
end
end Go.Proofs.YtfojfohfhomhbaaGreatDoor

namespace Go.Proofs.YtfojfohfhomhbaaGreatDoor
open Go.RowKit Go.ChangeShapes Go.WideShapes Go.Deep

section
variable {H : Type} {enc : TypeId × Value → H} {W : World} {base : Nat} {spare : Nat → Bool} {held : Bool}
set_option maxRecDepth 100000 in
theorem openNode {fuel : Nat} {c0 c1 c2 c3 c4 c5 c6 c7 c8 : Value} {x : DataW H × List MemPlace} (h : DataW.trod enc Tryz.prog W base spare held fuel 27 [c0, c1, c2, c3, c4, c5, c6, c7, c8] = some x) :
    ∃ (n : NodeD) (A : Option Addr) (k c : Nat) (L : List ByteArray), Value.agg #[c0, c1, c2, c3, c4, c5, c6, c7, c8] = nodeV n A k c ∧ SlOk A k c ∧ Rd W W.heap.size 1 A k (sv L) ∧ k ≤ Rows.uptoBulk x.1 ∧ n.desc.size ≤ Rows.uptoBulk x.1 := by
  obtain ⟨xs, n, rfl, rfl, hl, hxl, hf⟩ := DataW.trod_struct Tryz.underlying27 h
  match xs, hxl with
  | [y0, y1, y2, y3, y4, y5, y6], _ =>
    have g0 : DataW.trod enc Tryz.prog W base spare held n 3 [c0] = some y0 := by simpa [cells3] using hf 0 _ rfl
    have g1 : DataW.trod enc Tryz.prog W base spare held n 22 [c1] = some y1 := by simpa [cells22] using hf 1 _ rfl
    have g2 : DataW.trod enc Tryz.prog W base spare held n 9 [c2] = some y2 := by simpa [cells9] using hf 2 _ rfl
    have g3 : DataW.trod enc Tryz.prog W base spare held n 9 [c3] = some y3 := by simpa [cells9] using hf 3 _ rfl
    have g4 : DataW.trod enc Tryz.prog W base spare held n 25 [c4, c5, c6] = some y4 := by simpa [cells25] using hf 4 _ rfl
    have g5 : DataW.trod enc Tryz.prog W base spare held n 9 [c7] = some y5 := by simpa [cells9] using hf 5 _ rfl
    have g6 : DataW.trod enc Tryz.prog W base spare held n 4 [c8] = some y6 := by simpa [cells4] using hf 6 _ rfl
    obtain ⟨z0, e0, _⟩ := DataW.trod_int Tryz.underlying3 g0
    obtain ⟨z1, e1, _⟩ := DataW.trod_int Tryz.underlying22 g1
    obtain ⟨s2, e2, q2, _⟩ := DataW.trod_string Tryz.underlying9 g2
    obtain ⟨s3, e3, _⟩ := DataW.trod_string Tryz.underlying9 g3
    obtain ⟨u0, u1, u2, m, q4, _, k0, k1, k2⟩ := trod_struct3 Tryz.underlying25 g4
    have k0' : DataW.trod enc Tryz.prog W base spare held m 9 [c4] = some u0 := by simpa [cells9] using k0
    have k1' : DataW.trod enc Tryz.prog W base spare held m 23 [c5] = some u1 := by simpa [cells23] using k1
    have k2' : DataW.trod enc Tryz.prog W base spare held m 9 [c6] = some u2 := by simpa [cells9] using k2
    obtain ⟨s4, e4, _⟩ := DataW.trod_string Tryz.underlying9 k0'
    obtain ⟨B, k, c, L, e5, hok, hr, _, hb⟩ := openL k1'
    obtain ⟨s6, e6, _⟩ := DataW.trod_string Tryz.underlying9 k2'
    obtain ⟨s7, e7, _⟩ := DataW.trod_string Tryz.underlying9 g5
    obtain ⟨b8, e8, _⟩ := DataW.trod_bool Tryz.underlying4 g6
    injection e0 with e0 _
    injection e1 with e1 _
    injection e2 with e2 _
    injection e3 with e3 _
    injection e4 with e4 _
    injection e6 with e6 _
    injection e7 with e7 _
    injection e8 with e8 _
    subst e0 e1 e2 e3 e4 e5 e6 e7 e8
    refine ⟨⟨z0, z1, s2, s3, s4, s6, s7, b8⟩, B, k, c, L, rfl, hok, hr, ?_, ?_⟩
    · have h1 := bulk_part (H := H) (d := u1.1) (l := [u0.1, u1.1, u2.1]) (by simp)
      have h2 := bulk_part (H := H) (d := y4.1) (l := [y0.1, y1.1, y2.1, y3.1, y4.1, y5.1, y6.1]) (by simp)
      have h3 : Rows.uptoBulk y4.1 = Rows.uptoBulkAll [u0.1, u1.1, u2.1] + 1 := by rw [q4]; exact bulk_agg _
      have e : Rows.uptoBulk (DataW.agg (H := H) ([y0, y1, y2, y3, y4, y5, y6].map (·.1))) = Rows.uptoBulkAll [y0.1, y1.1, y2.1, y3.1, y4.1, y5.1, y6.1] + 1 := bulk_agg _
      show k ≤ Rows.uptoBulk (DataW.agg (H := H) ([y0, y1, y2, y3, y4, y5, y6].map (·.1)))
      omega
    · have h2 := bulk_part (H := H) (d := y2.1) (l := [y0.1, y1.1, y2.1, y3.1, y4.1, y5.1, y6.1]) (by simp)
      have h3 : Rows.uptoBulk y2.1 = s2.size + 1 := by rw [q2, bulk_str, strLen]
      have e : Rows.uptoBulk (DataW.agg (H := H) ([y0, y1, y2, y3, y4, y5, y6].map (·.1))) = Rows.uptoBulkAll [y0.1, y1.1, y2.1, y3.1, y4.1, y5.1, y6.1] + 1 := bulk_agg _
      show s2.size ≤ Rows.uptoBulk (DataW.agg (H := H) ([y0, y1, y2, y3, y4, y5, y6].map (·.1)))
      omega
set_option maxRecDepth 100000 in
theorem openEntry {fuel : Nat} {c0 c1 c2 c3 : Value} {x : DataW H × List MemPlace} (h : DataW.trod enc Tryz.prog W base spare held fuel 30 [c0, c1, c2, c3] = some x) :
    ∃ (ln : Int) (nm : ByteArray) (KA A : Option Addr) (kn kc n c : Nat) (KL : List ByteArray) (L : List AttrD), Value.agg #[c0, c1, c2, c3] = .agg #[.int .i64 ln, .string nm, .slice KA kn kc, .slice A n c] ∧ SlOk KA kn kc ∧ Rd W W.heap.size 1 KA kn (sv KL) ∧ kn ≤ Rows.uptoBulk x.1 ∧
      AttrsAt W W.heap.size A n L ∧ totV L ≤ Rows.uptoBulk x.1 ∧ n ≤ Rows.uptoBulk x.1 ∧ (∀ a ∈ L, a.vals.length ≤ Rows.uptoBulk x.1) ∧ ∀ a ∈ L, a.canon.size ≤ Rows.uptoBulk x.1 := by
  obtain ⟨xs, n, rfl, rfl, hl, hxl, hf⟩ := DataW.trod_struct Tryz.underlying30 h
  match xs, hxl with
  | [y0, y1, y2, y3], _ =>
    have g0 : DataW.trod enc Tryz.prog W base spare held n 3 [c0] = some y0 := by simpa [cells3] using hf 0 _ rfl
    have g1 : DataW.trod enc Tryz.prog W base spare held n 9 [c1] = some y1 := by simpa [cells9] using hf 1 _ rfl
    have g2 : DataW.trod enc Tryz.prog W base spare held n 23 [c2] = some y2 := by simpa [cells23] using hf 2 _ rfl
    have g3 : DataW.trod enc Tryz.prog W base spare held n 28 [c3] = some y3 := by simpa [cells28] using hf 3 _ rfl
    obtain ⟨z0, e0, _⟩ := DataW.trod_int Tryz.underlying3 g0
    obtain ⟨s1, e1, _⟩ := DataW.trod_string Tryz.underlying9 g1
    obtain ⟨KA, kn, kc, KL, e2, hok, hr, _, hb⟩ := openL g2
    obtain ⟨A, m, c, L, e3, ha, ht, hm, hv, hc⟩ := openAs g3
    injection e0 with e0 _
    injection e1 with e1 _
    subst e0 e1 e2 e3
    have h2 := bulk_part (H := H) (d := y2.1) (l := [y0.1, y1.1, y2.1, y3.1]) (by simp)
    have h3 := bulk_part (H := H) (d := y3.1) (l := [y0.1, y1.1, y2.1, y3.1]) (by simp)
    have e : Rows.uptoBulk (DataW.agg (H := H) ([y0, y1, y2, y3].map (·.1))) = Rows.uptoBulkAll [y0.1, y1.1, y2.1, y3.1] + 1 := bulk_agg _
    refine ⟨z0, s1, KA, A, kn, kc, m, c, KL, L, rfl, hok, hr, ?_, ha, ?_, ?_, fun a ha' => ?_, fun a ha' => ?_⟩
    · show _ ≤ Rows.uptoBulk (DataW.agg (H := H) ([y0, y1, y2, y3].map (·.1))); omega
    · show _ ≤ Rows.uptoBulk (DataW.agg (H := H) ([y0, y1, y2, y3].map (·.1))); omega
    · show _ ≤ Rows.uptoBulk (DataW.agg (H := H) ([y0, y1, y2, y3].map (·.1))); omega
    · have := hv a ha'; show _ ≤ Rows.uptoBulk (DataW.agg (H := H) ([y0, y1, y2, y3].map (·.1))); omega
    · have := hc a ha'; show _ ≤ Rows.uptoBulk (DataW.agg (H := H) ([y0, y1, y2, y3].map (·.1))); omega
end
end Go.Proofs.YtfojfohfhomhbaaGreatDoor
