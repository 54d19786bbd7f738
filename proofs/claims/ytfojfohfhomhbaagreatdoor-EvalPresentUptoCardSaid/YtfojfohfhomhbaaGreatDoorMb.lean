/- Words for slices cut in two. Plain: facts on the table of attribute types, each checked row by row. Words for an entry's attributes and a filter's node, as they lie in memory, and what an item Present is worth. Words for appending a slice that came in. Walks: a text looked for in a list, the program's way and the reference's. Words for rows of bytes. Words for a long switch: the code of its tests, read as a list of cases. -/
import Derived.Test.YtfojfohfhomhbaaGreatDoorMa
import Derived.Laws.AppendOwnNone
import Derived.Laws.BytesArg
import Derived.Lib.ConvBytes
namespace Go.Proofs.YtfojfohfhomhbaaGreatDoor
open Go.RowKit

theorem Rd.take {w : World} {K n : Nat} {A : Option Addr} {xs : List Value} (h : Rd w K 1 A n xs) {m : Nat} (hm : m ≤ n) : Rd w K 1 A m (xs.take m) := by
  refine ⟨by have := h.1; simp; omega, fun h0 => ?_⟩
  obtain ⟨ad, e, hb, hc⟩ := h.2 (by omega)
  refine ⟨ad, e, hb, fun j u hu => hc j u ?_⟩
  rw [List.getElem?_take] at hu
  split at hu
  · exact hu
  · cases hu
theorem Rd.drop {w : World} {K n : Nat} {ad : Addr} {xs : List Value} (h : Rd w K 1 (some ad) n xs) {m : Nat} (hm : m ≤ n) : Rd w K 1 (some (ad.add m)) (n - m) (xs.drop m) := by
  refine ⟨by have := h.1; simp; omega, fun h0 => ?_⟩
  obtain ⟨ad', e, hb, hc⟩ := h.2 (by omega)
  injection e with e
  subst e
  refine ⟨ad.add m, rfl, by rw [addBlock]; exact hb, fun j u hu => ?_⟩
  rw [addAdd]
  exact hc (m + j) u (by rw [List.getElem?_drop] at hu; exact hu)
theorem sv_take (L : List ByteArray) (m : Nat) : sv (L.take m) = (sv L).take m := by simp [sv, List.map_take]
theorem sv_drop (L : List ByteArray) (m : Nat) : sv (L.drop m) = (sv L).drop m := by simp [sv, List.map_drop]

theorem ownDrew {w : World} {base e sz n q : Nat} {v : Value} {xs : List Value} (h : w.ownsRow base e sz v n xs) : (w.drewN q).ownsRow base e sz v n xs := h
/-- What stands behind the first element. -/
theorem restAt {w : World} {g n K : Nat} {L : List ByteArray} (h : Rd w K 1 (some ⟨g, 0, none⟩) n (sv L)) (h1 : 1 ≤ n) : ∃ ad : Addr, (if n = 1 then some (⟨g, 0, none⟩ : Addr) else some ⟨g, 1, none⟩) = some ad ∧ ad.block = g ∧ Rd w K 1 (some ad) (n - 1) (sv (L.drop 1)) := by
  by_cases hn : n = 1
  · exact ⟨_, if_pos hn, rfl, ⟨by have := h.1; simp at this ⊢; omega, fun h0 => absurd h0 (by omega)⟩⟩
  · refine ⟨_, if_neg hn, rfl, ?_⟩
    have h2 := Rd.drop h h1
    rw [sv_drop]
    simpa [Addr.add] using h2
theorem ownsBase {w : World} {base base' e sz n : Nat} {v : Value} {xs : List Value} (h : w.ownsRow base e sz v n xs) (hb : base' ≤ base) : w.ownsRow base' e sz v n xs := by
  refine ⟨h.1, ?_⟩
  rcases h.2 with h0 | ⟨g, cap, cur, hv, hg, hr⟩
  · exact .inl h0
  · exact .inr ⟨g, cap, cur, hv, Nat.le_trans hb hg, hr⟩
/-- 'append(out, x)', the element laid in a new block just ahead, out's own blocks from 'base' on: nothing below 'base' turns. -/
theorem app2 {P : Program} {wr : World} {e' : TypeId} {u : Value} {ops : Array Oper} {rest : List Oper} {o : Oper} {a : Act} {Q : Exit → Act → World → Prop} (hgd : o.guard = none) (s x : Operand) (t : TypeId)
    (ho : o.op = .call { callee := .builtin .append, args := #[s, x], argTypes := #[t, t] })
    (base : Nat) (e : TypeId) (z : Value) (bytes : Nat) (ht : P.underlying t = some (.slice e)) (hi : (P.info? e).map (fun i => (i.zero, i.size, i.bytes)) = some (some z, 1, bytes)) (hzs : z.cells.size = 1)
    (v : Value) (n : Nat) (xs : List Value) (hs : a.eval s = v) (hown : wr.ownsRow base e 1 v n xs)
    (hx : a.eval x = .slice (some ⟨wr.heap.size, 0, none⟩) 1 1) (h1 : u.oneCell' = true) (hbase : base ≤ wr.heap.size)
    (hn : (n + 1) * bytes ≤ 140737488355328) (h63 : n + 1 ≤ 9223372036854775807)
    (h : ∀ v' w', w'.ownsRow base e 1 v' (n + 1) (xs ++ [u]) → Below base wr w' → wpList P ops Q rest (a.put o.dst v') w') :
    wpList P ops Q (o :: rest) a (wr.alloc (.cells #[u] e')) := by
  refine wpApp1 _ hgd s x t ho base e z bytes ht hi hzs v n xs hs (hown.alloc _) ⟨wr.heap.size, 0, none⟩ 1 u hx (by simp [go_sem]) h1 hn h63 (by simp; omega) fun v' w' h2 h3 _ => h v' w' h2 ?_
  exact ((Below.refl base wr).alloc hbase _).grown h3 (by simp; omega) (ownLe (hown.alloc (.cells #[u] e')))
end Go.Proofs.YtfojfohfhomhbaaGreatDoor

namespace Go.Proofs.YtfojfohfhomhbaaGreatDoor

/-- Does the text stand in the list? -/
def memB (L : List ByteArray) (s : ByteArray) : Bool := L.any fun x => byt x == byt s
theorem memB_iff {L : List ByteArray} {s : ByteArray} : memB L s = true ↔ s ∈ L := by
  simp only [memB, List.any_eq_true, beq_iff_eq]
  exact ⟨fun ⟨x, hx, e⟩ => byt_inj e ▸ hx, fun h => ⟨s, h, rfl⟩⟩
theorem memB_no {L : List ByteArray} {s : ByteArray} (h : s ∉ L) : memB L s = false := by
  cases hm : memB L s with
  | false => rfl
  | true => exact absurd (memB_iff.1 hm) h
def coversB (d e : ByteArray) : Bool := descB d && descB e && memB (supersS (canonS (headS e))) (canonS (headS d)) && (optsS d).all fun o => memB (optsS e) o
theorem find4_lt {t : ByteArray} {i : Nat} (h : find4 t = some i) : i < 62 := List.mem_range.1 (List.mem_of_find?_eq_some h)
def supNm (i : Nat) : ByteArray := if (row4 i).sup < 0 then bs [] else (row4 (row4 i).sup.toNat).nm
theorem nm_fold' : ∀ i < 62, (byt (row4 i).nm).map lowC = byt (row4 i).nm := by decide +kernel
theorem nm_fold {i : Nat} (h : i < 62) : foldS (row4 i).nm = (row4 i).nm := by rw [foldS, nm_fold' i h, bs_byt]
theorem find_sup : ∀ i < 62, find4 (supNm i) = if (row4 i).sup < 0 then none else some (row4 i).sup.toNat := by decide +kernel
theorem find_nm : ∀ i < 62, find4 (row4 i).nm = some i := by decide +kernel
theorem sup_lt : ∀ i < 62, (row4 i).sup < 62 := by decide +kernel
theorem chain_eq' : ∀ i < 62, (chain4 3 i).map byt = byt (row4 i).nm :: (if (row4 i).sup < 0 then [] else (chain4 3 (row4 i).sup.toNat).map byt) := by decide +kernel
theorem chain_eq {i : Nat} (h : i < 62) : chain4 3 i = (row4 i).nm :: (if (row4 i).sup < 0 then [] else chain4 3 (row4 i).sup.toNat) := by
  have h1 := congrArg (List.map bs) (chain_eq' i h)
  have e : ∀ l : List ByteArray, (l.map byt).map bs = l := fun l => by simp [Function.comp_def]
  rw [e] at h1
  rw [h1]
  by_cases hs : (row4 i).sup < 0
  · simp [hs]
  · simp [hs, Function.comp_def]
theorem chain_len : ∀ i < 62, (chain4 3 i).length ≤ 3 := by decide +kernel
theorem canon_fold (t : ByteArray) : foldS (canonS t) = canonS t := by
  unfold canonS
  cases h : find4 (foldS t) with
  | none => exact foldS_idem t
  | some i => exact nm_fold (find4_lt h)
theorem supers_of (t : ByteArray) : supersS t = match find4 (foldS t) with
  | some i => chain4 3 i
  | none => [foldS t] := rfl
theorem row_sz : ∀ i < 62, (row4 i).nm.size ≤ 64 ∧ (row4 i).al.size ≤ 64 ∧ (row4 i).oid.size ≤ 64 := by decide +kernel
theorem supNm_sz {i : Nat} (h : i < 62) : (supNm i).size ≤ 64 := by
  unfold supNm
  split
  · decide
  · exact (row_sz _ (by have := sup_lt i h; omega)).1
end Go.Proofs.YtfojfohfhomhbaaGreatDoor

namespace Go.Proofs.YtfojfohfhomhbaaGreatDoor
open Go.RowKit

/-- How a slice that came in is written: nil without room. -/
def SlOk (B : Option Addr) (m c : Nat) : Prop := m ≤ c ∧ (B = none → c = 0)
structure AttrD where
  desc : ByteArray
  canon : ByteArray
  vals : List ByteArray
instance : Inhabited AttrD := ⟨⟨⟨#[]⟩, ⟨#[]⟩, []⟩⟩
/-- Attribute j of the row at ad lies so: two texts, and a slice of texts below block K. -/
def AttrAt (w : World) (K : Nat) (ad : Addr) (j : Nat) (a : AttrD) : Prop :=
  w.cell? (ad.add (j * 3)) = some (.string a.desc) ∧ w.cell? (ad.add (j * 3 + 1)) = some (.string a.canon) ∧
  ∃ (B : Option Addr) (m c : Nat), w.cell? (ad.add (j * 3 + 2)) = some (.slice B m c) ∧ SlOk B m c ∧ Rd w K 1 B m (sv a.vals)
/-- The slice at A with n attributes reads as L; all of it below block K. -/
def AttrsAt (w : World) (K : Nat) (A : Option Addr) (n : Nat) (L : List AttrD) : Prop :=
  L.length = n ∧ (0 < n → ∃ ad, A = some ad ∧ ad.block < K ∧ ∀ j (h : j < L.length), AttrAt w K ad j L[j])
theorem AttrAt.keep {w w' : World} {K j : Nat} {ad : Addr} {a : AttrD} (h : AttrAt w K ad j a) (hK : ad.block < K) (hk : ∀ p : Addr, p.block < K → w'.cell? p = w.cell? p) : AttrAt w' K ad j a := by
  obtain ⟨h1, h2, B, m, c, h3, h4, h5⟩ := h
  exact ⟨(hk _ (by rw [addBlock]; exact hK)).trans h1, (hk _ (by rw [addBlock]; exact hK)).trans h2, B, m, c, (hk _ (by rw [addBlock]; exact hK)).trans h3, h4, h5.keep hk⟩
theorem AttrsAt.keep {w w' : World} {K n : Nat} {A : Option Addr} {L : List AttrD} (h : AttrsAt w K A n L) (hk : ∀ p : Addr, p.block < K → w'.cell? p = w.cell? p) : AttrsAt w' K A n L := by
  refine ⟨h.1, fun hn => ?_⟩
  obtain ⟨ad, e, hb, hc⟩ := h.2 hn
  exact ⟨ad, e, hb, fun j hj => (hc j hj).keep hb hk⟩
theorem AttrsAt.below {w w' : World} {K n : Nat} {A : Option Addr} {L : List AttrD} (h : AttrsAt w K A n L) (hb : Below K w w') : AttrsAt w' K A n L := h.keep fun _ hp => hb.cell hp
theorem AttrsAt.more {w : World} {K K' n : Nat} {A : Option Addr} {L : List AttrD} (h : AttrsAt w K A n L) (hK : K ≤ K') : AttrsAt w K' A n L := by
  refine ⟨h.1, fun hn => ?_⟩
  obtain ⟨ad, e, hb, hc⟩ := h.2 hn
  refine ⟨ad, e, by omega, fun j hj => ?_⟩
  obtain ⟨h1, h2, B, m, c, h3, h4, h5⟩ := hc j hj
  exact ⟨h1, h2, B, m, c, h3, h4, h5.more hK⟩
theorem AttrsAt.up {w w' : World} {n : Nat} {A : Option Addr} {L : List AttrD} (h : AttrsAt w w.heap.size A n L) (hb : Below w.heap.size w w') : AttrsAt w' w'.heap.size A n L := (h.below hb).more hb.size

/-- One attribute by its number. -/
theorem AttrsAt.at {w : World} {K n k : Nat} {A : Option Addr} {L : List AttrD} (h : AttrsAt w K A n L) (hk : k < n) : ∃ ad, A = some ad ∧ ad.block < K ∧ ∃ hl : k < L.length, AttrAt w K ad k L[k] := by
  obtain ⟨ad, e, hb, hc⟩ := h.2 (by omega)
  have hl : k < L.length := by have := h.1; omega
  exact ⟨ad, e, hb, hl, hc k hl⟩

/-- The cells as a walk spells them. -/
theorem addForm (a : Addr) (i j : Nat) (h : j ≠ 0) : a.add (i + j) = ⟨(a.add i).block, (a.add i).off + j, none⟩ := by
  rw [← addAdd]; simp [Addr.add, h]
theorem AttrAt.forms {w : World} {K j : Nat} {ad : Addr} {a : AttrD} (h : AttrAt w K ad j a) : w.cell? (ad.add (j * 3)) = some (.string a.desc) ∧ w.cell? ⟨(ad.add (j * 3)).block, (ad.add (j * 3)).off + 1, none⟩ = some (.string a.canon) ∧
    ∃ (B : Option Addr) (m c : Nat), w.cell? ⟨(ad.add (j * 3)).block, (ad.add (j * 3)).off + 2, none⟩ = some (.slice B m c) ∧ SlOk B m c ∧ Rd w K 1 B m (sv a.vals) := by
  obtain ⟨h1, h2, B, m, c, h3, h4, h5⟩ := h
  rw [addForm _ _ _ (by decide)] at h2 h3
  exact ⟨h1, h2, B, m, c, h3, h4, h5⟩

/-- Is there an attribute with a value, that the description covers? -/
def hasS (d : ByteArray) (L : List AttrD) : Bool := L.any fun a => !a.vals.isEmpty && coversB d a.canon
theorem hasS_take {d : ByteArray} {L : List AttrD} {k : Nat} (hk : k < L.length) (h : hasS d (L.take k) = false) (ha : (!L[k].vals.isEmpty && coversB d L[k].canon) = false) : hasS d (L.take (k + 1)) = false := by
  rw [hasS] at h ⊢
  rw [List.take_succ_eq_append_getElem hk, List.any_append, h]; simp [ha]
theorem hasS_hit {d : ByteArray} {L : List AttrD} {k : Nat} (hk : k < L.length) (ha : (!L[k].vals.isEmpty && coversB d L[k].canon) = true) : hasS d L = true := by
  rw [hasS, List.any_eq_true]
  exact ⟨L[k], List.getElem_mem hk, ha⟩
theorem hasS_all {d : ByteArray} {L : List AttrD} {k : Nat} (hk : L.length ≤ k) (h : hasS d (L.take k) = false) : hasS d L = false := by rwa [List.take_of_length_le hk] at h

/-- A filter's node. -/
structure NodeD where
  depth : Int
  op : Int
  desc : ByteArray
  value : ByteArray
  ini : ByteArray
  fin : ByteArray
  rule : ByteArray
  dn : Bool
def nodeV (n : NodeD) (A : Option Addr) (k c : Nat) : Value := .agg #[.int .i64 n.depth, .int .i64 n.op, .string n.desc, .string n.value, .string n.ini, .slice A k c, .string n.fin, .string n.rule, .bool n.dn]
/-- What an item that is Present or none of the items is worth. -/
def presS (op : Int) (d : ByteArray) (L : List AttrD) : Int := if synS d = 0 then 1 else if op = 7 then (if hasS d L = true then 2 else 0) else 1
end Go.Proofs.YtfojfohfhomhbaaGreatDoor

namespace Go.Proofs.YtfojfohfhomhbaaGreatDoor
open Go.RowKit

/-- 'append(out, xs...)': out the call's own from block 'base' on, xs a slice that reads as 'news'. -/
theorem app3 {P : Program} {wr : World} {ops : Array Oper} {rest : List Oper} {o : Oper} {a : Act} {Q : Exit → Act → World → Prop} (hgd : o.guard = none) (s x : Operand) (t : TypeId)
    (ho : o.op = .call { callee := .builtin .append, args := #[s, x], argTypes := #[t, t] })
    (base : Nat) (e : TypeId) (z : Value) (size bytes : Nat) (ht : P.underlying t = some (.slice e)) (hi : (P.info? e).map (fun i => (i.zero, i.size, i.bytes)) = some (some z, size, bytes)) (hzs : z.cells.size = size) (hsz : 0 < size)
    (v : Value) (n : Nat) (xs : List Value) (hs : a.eval s = v) (hown : wr.ownsRow base e size v n xs)
    (B : Option Addr) (m c K : Nat) (news : List Value) (hx : a.eval x = .slice B m c) (hB : SlOk B m c) (hr : Rd wr K size B m news) (h1 : ∀ u ∈ news, u.oneCell' = true) (hbase : base ≤ wr.heap.size)
    (hn : (n + m) * bytes ≤ 140737488355328) (h63 : n + m ≤ 1099511627776)
    (h : ∀ v' w', w'.ownsRow base e size v' (n + m) (xs ++ news) → Below base wr w' → wpList P ops Q rest (a.put o.dst v') w') : wpList P ops Q (o :: rest) a wr := by
  obtain ⟨i, hi1, hz0, hz1, hz2⟩ := info_parts hi
  cases B with
  | none =>
    have hc := hB.2 rfl
    have hm : m = 0 := by have := hB.1; omega
    subst hc
    subst hm
    have hnw : news = [] := List.eq_nil_of_length_eq_zero (by have := hr.1; simpa using this)
    subst hnw
    exact wpList_append_own_none hgd s x t ho base e i size ht hi1 v n xs hs hown hx (h v wr (by simpa using hown) (Below.refl _ _))
  | some ad =>
    refine wpList_append_own_at wr hgd s x t ho base e i z size bytes ht hi1 hz0 hz1 hz2 hzs hsz v n xs hs hown ad m c news hx hr.1 (fun j u hu => ?_) h1 (by unfold maxLen; omega) hn hbase fun v' w' h2 h3 _ _ => h v' w' h2 ?_
    · have hj : j < news.length := by
        rcases List.getElem?_eq_some_iff.1 hu with ⟨hj, _⟩
        exact hj
      have hm : 0 < m := by
        rcases Nat.eq_zero_or_pos m with h0 | h0
        · have := hr.1; rw [h0, Nat.zero_mul] at this; omega
        · exact h0
      obtain ⟨ad', he, _, hc⟩ := hr.2 hm
      injection he with he
      subst he
      exact hc j u hu
    · exact (Below.refl base wr).grown h3 hbase (ownLe hown)
theorem sv_one (L : List ByteArray) : ∀ u ∈ sv L, u.oneCell' = true := by
  intro u hu
  obtain ⟨s, _, rfl⟩ := List.mem_map.1 hu
  rfl

/-- How many values a row of attributes has. -/
def totV : List AttrD → Nat
  | [] => 0
  | a :: l => a.vals.length + totV l
theorem totV_snoc (l : List AttrD) (a : AttrD) : totV (l ++ [a]) = totV l + a.vals.length := by
  induction l with
  | nil => simp [totV]
  | cons x l ih => simp only [List.cons_append, totV, ih]; omega
theorem totV_take (l : List AttrD) (k : Nat) : totV (l.take k) ≤ totV l := by
  induction l generalizing k with
  | nil => simp [totV]
  | cons x l ih =>
    cases k with
    | zero => simp [totV]
    | succ k => have := ih k; simp only [List.take_succ_cons, totV]; omega
theorem totV_next {l : List AttrD} {k : Nat} (h : k < l.length) : totV (l.take (k + 1)) = totV (l.take k) + l[k].vals.length := by
  rw [List.take_succ_eq_append_getElem h, totV_snoc]
theorem hasS_step {d : ByteArray} {L : List AttrD} {k : Nat} (hk : k < L.length) : hasS d (L.take (k + 1)) = (hasS d (L.take k) || (!L[k].vals.isEmpty && coversB d L[k].canon)) := by
  rw [hasS, hasS, List.take_succ_eq_append_getElem hk, List.any_append]; simp
end Go.Proofs.YtfojfohfhomhbaaGreatDoor

namespace Go.Proofs.YtfojfohfhomhbaaGreatDoor
open Go.RowKit

theorem svCell {w : World} {K n : Nat} {A : Option Addr} {L : List ByteArray} (h : Rd w K 1 A n (sv L)) {k : Nat} (hk : k < n) : ∃ ad, A = some ad ∧ ∃ hl : k < L.length, w.cell? (ad.add k) = some (.string L[k]) := by
  obtain ⟨ad, rfl, _, hl, hc⟩ := h.at1 hk
  have hl' : k < L.length := by simpa using hl
  exact ⟨ad, rfl, hl', by rw [hc, sv_get L k hl']⟩
theorem not_take {L : List ByteArray} {s : ByteArray} {k : Nat} (hk : k < L.length) (h : s ∉ L.take k) (hne : L[k] ≠ s) : s ∉ L.take (k + 1) := by
  rw [List.take_succ_eq_append_getElem hk, List.mem_append, List.mem_singleton, not_or]
  exact ⟨h, fun e => hne e.symm⟩
theorem strNe {s t : ByteArray} (h : (s.toList == t.toList) = false) : s ≠ t := fun e => by subst e; simp at h
theorem strEq {s t : ByteArray} (h : (s.toList == t.toList) = true) : s = t := by
  have h : s.toList = t.toList := by simpa using h
  rw [toL, toL] at h; exact byt_inj h

set_option maxHeartbeats 1600000 in
theorem has_any (L : List ByteArray) (s : ByteArray) (A : Option Addr) (n cp K : Nat) (w : World) (hr : Rd w K 1 A n (sv L)) (hn : n ≤ 1099511627777) :
    Calls Tryz.prog 130 #[.slice A n cp, .string s] w fun e w' => e = .returned (.bool (memB L s)) ∧ w = w' := by
  have hln : L.length = n := by have := hr.1; simpa using this
  have HR := hid hr
  clear hr
  go_enter Tryz.func130, Tryz.ntmps130
  go_wp2
  go_loop [6, 9] (fun _ i => ∃ k : Nat, k ≤ n ∧ i = .int .i64 k ∧ Hid (s ∉ L.take k)) (fun _ i => n - (intOf i).toNat)
  case atStart => exact ⟨0, Nat.zero_le _, rfl, hid (by simp)⟩
  case round =>
    obtain ⟨k, hk, rfl, H⟩ := hrel
    by_cases hlt : k < n
    · obtain ⟨ad, rfl, hl, hc⟩ := svCell HR.out hlt
      obtain ⟨t, ht⟩ : ∃ t, t = L[k] := ⟨_, rfl⟩
      rw [← ht] at hc
      have Ht := hid ht
      clear ht
      cases he : (t.toList == s.toList) with
      | true =>
        have e1 := hid (strEq he)
        go_wp2
        go_ret
        refine ⟨retB ?_, rfl⟩
        exact (memB_iff.2 (by rw [← e1.out, Ht.out]; exact List.getElem_mem hl)).symm
      | false =>
        have e1 := hid (not_take hl H.out (by rw [← Ht.out]; exact strNe he))
        go_wp2
        go_round
        case rel => exact ⟨k + 1, by omega, by go_num, e1⟩
        case measure => simp [intOf]; omega
    · have h1 : s ∉ L := by have := H.out; rwa [List.take_of_length_le (by omega)] at this
      have H1 := hid h1
      clear H h1
      go_wp2
      go_ret
      exact ⟨retB (memB_no H1.out).symm, rfl⟩

set_option maxHeartbeats 1600000 in
theorem in_any (L : List ByteArray) (s : ByteArray) (A : Option Addr) (n cp K : Nat) (w : World) (hr : Rd w K 1 A n (sv L)) (hn : n ≤ 1099511627777) :
    Calls Tryz.prog 97 #[.string s, .slice A n cp] w fun e w' => e = .returned (.bool (memB L s)) ∧ w = w' := by
  have hln : L.length = n := by have := hr.1; simpa using this
  have HR := hid hr
  clear hr
  go_enter Tryz.func97, Tryz.ntmps97
  go_wp2
  go_loop [5] (fun i => ∃ k : Nat, k ≤ n ∧ i = .int .i64 k ∧ Hid (s ∉ L.take k)) (fun i => n - (intOf i).toNat)
  case atStart => exact ⟨0, Nat.zero_le _, rfl, hid (by simp)⟩
  case round =>
    obtain ⟨k, hk, rfl, H⟩ := hrel
    by_cases hlt : k < n
    · obtain ⟨ad, rfl, hl, hc⟩ := svCell HR.out hlt
      obtain ⟨t, ht⟩ : ∃ t, t = L[k] := ⟨_, rfl⟩
      rw [← ht] at hc
      have Ht := hid ht
      clear ht
      cases he : (t.toList == s.toList) with
      | true =>
        have e1 := hid (strEq he)
        go_wp2
        go_ret
        refine ⟨retB ?_, rfl⟩
        exact (memB_iff.2 (by rw [← e1.out, Ht.out]; exact List.getElem_mem hl)).symm
      | false =>
        have e1 := hid (not_take hl H.out (by rw [← Ht.out]; exact strNe he))
        go_wp2
        go_round
        case rel => exact ⟨k + 1, by omega, by go_num, e1⟩
        case measure => simp [intOf]; omega
    · have h1 : s ∉ L := by have := H.out; rwa [List.take_of_length_le (by omega)] at this
      have H1 := hid h1
      clear H h1
      go_wp2
      go_ret
      exact ⟨retB (memB_no H1.out).symm, rfl⟩
end Go.Proofs.YtfojfohfhomhbaaGreatDoor

namespace Go.Proofs.YtfojfohfhomhbaaGreatDoor
open Go.RowKit

def bv (l : List UInt8) : List Value := l.map fun c => .int .u8 (c.toNat : Int)
@[simp] theorem bv_length (l : List UInt8) : (bv l).length = l.length := by simp [bv]
theorem bv_snoc (l : List UInt8) (c : UInt8) : bv (l ++ [c]) = bv l ++ [.int .u8 (c.toNat : Int)] := by simp [bv]
theorem bv_append (l m : List UInt8) : bv (l ++ m) = bv l ++ bv m := by simp [bv]
theorem strNums (l : List UInt8) : strOfNums (l.map fun c => (c.toNat : Int)) = bs l := by
  simp [strOfNums, bs, Function.comp_def]
/-- string(b), b a row of the call's own. -/
theorem convOwn {P : Program} {w : World} {base e : Nat} {v : Value} {n : Nat} {l : List UInt8} (h : w.ownsRow base e 1 v n (bv l)) (src dst : TypeId)
    (hs : P.underlying src = some (.slice e)) (he : P.underlying e = some (.int .u8)) (hd : P.underlying dst = some .string) : (convert src dst v).run P w = .ok (.string (bs l)) w := by
  have hl : l.length = n := by have := h.1; simpa using this
  rcases h.2 with ⟨rfl, h0⟩ | ⟨g, cap, cur, rfl, _, hg, _⟩
  · have : l = [] := List.eq_nil_of_length_eq_zero (by omega)
    subst this
    exact run_convert_bytes_nil w src e hs he 0 0 dst hd
  · rw [← strNums]
    refine run_convert_bytes_arg w src e hs he g 0 n cap _ (by simpa using hl) (fun i hi => ?_) dst hd
    have hc := h.cells (g := g) rfl i (.int .u8 (l[i]'(by omega)).toNat) (by simp [bv, show i < l.length by omega])
    have e1 : (⟨g, 0, none⟩ : Addr).add i = ⟨g, 0 + i, none⟩ := by by_cases h0 : i = 0 <;> simp [Addr.add, h0]
    rw [← e1, hc]
    simp [List.getD, show i < l.length by omega]
/-- A block whose first n cells are these bytes, none of them frozen. -/
def Buf (w : World) (g e : Nat) (l : List UInt8) : Prop :=
  ∃ (cur : Array Value) (fz : Nat × Nat), w.heap[g]? = some (.cells cur e fz) ∧ cur.toList.take l.length = bv l ∧ l.length ≤ cur.size ∧ l.length ≤ fz.1
theorem Buf.cell {w : World} {g e : Nat} {l : List UInt8} (h : Buf w g e l) (k : Nat) (hk : k < l.length) : w.cell? ⟨g, k, none⟩ = some (.int .u8 (l[k].toNat : Int)) := by
  obtain ⟨cur, fz, hg, ht, hl, _⟩ := h
  rw [cell_of_row w g k cur e fz hg]
  have h1 : (cur.toList.take l.length)[k]? = some (.int .u8 (l[k].toNat : Int)) := by rw [ht]; simp [bv, hk]
  rw [List.getElem?_take, if_pos hk] at h1
  simpa using h1
theorem Buf.free {w : World} {g e : Nat} {l : List UInt8} (h : Buf w g e l) (k : Nat) (hk : k < l.length) : w.frozen? ⟨g, k, none⟩ = false := by
  obtain ⟨cur, fz, hg, _, _, hf⟩ := h
  simp only [World.frozen?, hg]
  simp; omega
theorem Buf.put {w : World} {g e : Nat} {l : List UInt8} (h : Buf w g e l) (k : Nat) (c : UInt8) : Buf (w.setCell ⟨g, k, none⟩ (.int .u8 (c.toNat : Int))) g e (l.set k c) := by
  obtain ⟨cur, fz, hg, ht, hl, hf⟩ := h
  refine ⟨cur.setIfInBounds k (.int .u8 (c.toNat : Int)), fz, ?_, ?_, by simpa using hl, by simpa using hf⟩
  · simp [World.setCell, Array.getElem?_modify, hg]
  · rw [Array.toList_setIfInBounds, List.length_set, List.take_set, ht]
    simp [bv, List.map_set]
theorem Buf.ofConv (w : World) (e : Nat) (s : ByteArray) : Buf (Lib.bytesWorld w e s) w.heap.size e (byt s) := by
  refine ⟨_, _, Lib.bytesWorld_at_new w e s, ?_, ?_, ?_⟩
  · have h1 : (s.data.map fun b => Value.int .u8 (b.toNat : Int)).toList = bv (byt s) := by simp [bv, byt]
    rw [Lib.bytesCells, Array.toList_append, h1, List.take_append_of_le_length (by simp)]
    exact List.take_of_length_le (by simp)
  · rw [byt_len, Lib.bytesCells, Array.size_append, Array.size_map]; exact Nat.le_add_right s.data.size _
  · show _ ≤ (Lib.bytesCells w e s).size
    rw [byt_len, Lib.bytesCells, Array.size_append, Array.size_map]; exact Nat.le_add_right s.data.size _
theorem belowConv (w : World) (e : Nat) (s : ByteArray) : Below w.heap.size w (Lib.bytesWorld w e s) := by
  refine ⟨?_, ?_, ?_, ?_, fun k hk => Lib.bytesWorld_at_old w e s k hk⟩
  iterate 3 simp [Lib.bytesWorld, World.freeze, World.alloc, World.drew, -World.alloc_eq, -World.drew_eq]
  rw [Lib.bytesWorld_size]; omega
theorem convBuf {P : Program} {w : World} {g e cap : Nat} {l : List UInt8} (h : Buf w g e l) (src dst : TypeId)
    (hs : P.underlying src = some (.slice e)) (he : P.underlying e = some (.int .u8)) (hd : P.underlying dst = some .string) : (convert src dst (.slice (some ⟨g, 0, none⟩) l.length cap)).run P w = .ok (.string (bs l)) w := by
  rw [← strNums]
  refine run_convert_bytes_arg w src e hs he g 0 l.length cap _ (by simp) (fun i hi => ?_) dst hd
  rw [Nat.zero_add, h.cell i hi]
  simp [List.getD, hi]
end Go.Proofs.YtfojfohfhomhbaaGreatDoor

namespace Go.Proofs.YtfojfohfhomhbaaGreatDoor
open Go.RowKit

/-! ### a block of cells -/
theorem blkCell {w : World} {g t : Nat} {cs : Array Value} (h : w.heap[g]? = some (.cells cs t (0, 0))) (i : Nat) : w.cell? ⟨g, i, none⟩ = cs[i]? := cell_of_row w g i cs t (0, 0) h
theorem blkFree {w : World} {g t : Nat} {cs : Array Value} (h : w.heap[g]? = some (.cells cs t (0, 0))) (i : Nat) : w.frozen? ⟨g, i, none⟩ = false := by simp [World.frozen?, h]
theorem blkLt {w : World} {g : Nat} {o : Obj} (h : w.heap[g]? = some o) : g < w.heap.size := (Array.getElem?_eq_some_iff.1 h).1
theorem blkSet {w : World} {g t : Nat} {cs : Array Value} (h : w.heap[g]? = some (.cells cs t (0, 0))) (i : Nat) (u : Value) : (w.setCell ⟨g, i, none⟩ u).heap[g]? = some (.cells (cs.setIfInBounds i u) t (0, 0)) := by
  simp [World.setCell, Array.getElem?_modify, h]
theorem growSet {a w : World} {g : Nat} (h : a.grownBy w (some g)) (i : Nat) (u : Value) : a.grownBy (w.setCell ⟨g, i, none⟩ u) (some g) :=
  ⟨h.os, h.tape, h.output, by simpa [World.setCell] using h.size, fun k hk hne => (Below.heap_setCell w ⟨g, i, none⟩ u k (fun e => hne (by rw [e]))).trans (h.block k hk hne)⟩
theorem growBelow {a w : World} (h : Below a.heap.size a w) (row : Option Nat) : a.grownBy w row := ⟨h.os, h.tape, h.output, h.size, fun k hk _ => h.block k hk⟩

/-- What a walk through a switch knows of the frame: its size, no deferred calls, and what lies in some slots. -/
def Sees (n : Nat) (fr : List (Nat × Value)) (a : Act) : Prop := a.tmps.size = n ∧ a.defers = [] ∧ ∀ p ∈ fr, a.tmps.getD p.1 undef = p.2
theorem put_at {a : Act} {d : Nat} {v : Value} (h : d < a.tmps.size) : (a.put (some d) v).tmps.getD d undef = v := by
  simp [Act.put, Array.getD_eq_getD_getElem?, h]
theorem put_ne {a : Act} {d e : Nat} {v : Value} (h : d ≠ e) : (a.put (some d) v).tmps.getD e undef = a.tmps.getD e undef := by
  simp [Act.put, Array.getD_eq_getD_getElem?, Array.getElem?_setIfInBounds_ne h]
theorem Sees.put {n : Nat} {fr : List (Nat × Value)} {a : Act} (h : Sees n fr a) {d : Nat} (v : Value) (hd : d ∉ fr.map (·.1)) : Sees n fr (a.put (some d) v) := by
  refine ⟨by simpa [Act.put] using h.1, by simpa [Act.put] using h.2.1, fun p hp => ?_⟩
  rw [put_ne (fun e => hd (List.mem_map.2 ⟨p, hp, e.symm⟩))]
  exact h.2.2 p hp
theorem Sees.set {n : Nat} {fr : List (Nat × Value)} {a : Act} (h : Sees n fr a) {d : Nat} (v : Value) (hd : d ∉ fr.map (·.1)) (hn : d < n) : Sees n ((d, v) :: fr) (a.put (some d) v) := by
  have h1 := h.put v hd
  refine ⟨h1.1, h1.2.1, fun p hp => ?_⟩
  rcases List.mem_cons.1 hp with rfl | hp
  · exact put_at (by rw [h.1]; exact hn)
  · exact h1.2.2 p hp

/-- One test: "slot x is this text / this number", into slot d. -/
inductive Lit where
  | str (l : List UInt8)
  | num (i : Int)
  deriving DecidableEq
def Lit.fits : Lit → Value → Bool
  | .str l, .string s => s.toList == l
  | .num i, .int .i64 k => k == i
  | _, _ => false
def litOf (s : Bool) : Value → Option Lit
  | .string l => if s = true then some (.str l.toList) else none
  | .int .i64 k => if s = true then none else some (.num k)
  | _ => none
def isStr : Value → Option Bool
  | .string _ => some true
  | .int .i64 _ => some false
  | _ => none
def rdTst (n x d : Nat) (s : Bool) (keep : List Nat) : Code → Option Lit
  | .region _ ops false =>
    match ops.toList with
    | [⟨some t, .binOp .eql _ (.tmp x') (.const l) _, _, _, _, none⟩, ⟨some d', .assign (.tmp t'), _, _, _, none⟩] =>
      if x' = x ∧ t' = t ∧ d' = d ∧ t < n ∧ d < n ∧ t ∉ keep ∧ d ∉ keep then litOf s l else none
    | _ => none
  | _ => none
theorem run_lit {P : Program} {w : World} {ρ : Operand → Value} {t : Option Tmp} {ty ty' y : TypeId} {x : Nat} {l v : Value} {p : String} {af : Array Edge} {s : Bool} {c : Lit} (hv : ρ (.tmp x) = v) (hl : ρ (.const l) = l) (hs : isStr v = some s) (hc : litOf s l = some c) :
    (execOp ρ ⟨t, .binOp .eql ty (.tmp x) (.const l) ty', y, p, af, none⟩).run P w = .ok (.value (.bool (c.fits v))) w := by
  unfold execOp
  simp only
  rw [hv, hl]
  unfold isStr at hs
  split at hs
  · injection hs with hs; subst hs
    unfold litOf at hc
    split at hc
    · simp only [if_true, Option.some.injEq] at hc; subst hc; rfl
    · simp at hc
    · simp at hc
  · injection hs with hs; subst hs
    unfold litOf at hc
    split at hc
    · simp at hc
    · simp only [Bool.false_eq_true, if_false, Option.some.injEq] at hc; subst hc; rfl
    · simp at hc
  · simp at hs
variable {P : Program} {Q : Exit → Act → World → Prop} {w : World}
theorem rdTst_ok {n x d : Nat} {s : Bool} {fr : List (Nat × Value)} {c : Code} {l : Lit} {v : Value} (hr : rdTst n x d s (fr.map (·.1)) c = some l) (hv : (x, v) ∈ fr) (hs : isStr v = some s) {a : Act} (ha : Sees n fr a)
    (k : ∀ a', Sees n fr a' → a'.tmps.getD d undef = .bool (l.fits v) → Q .normal a' w) : c.wp P Q a w := by
  unfold rdTst at hr
  split at hr
  · rename_i id ops
    split at hr
    · rename_i t ty x' l' ty' y p af d' t' y2 p2 af2 hops
      split at hr
      · rename_i hc
        obtain ⟨rfl, rfl, rfl, ht, hd, htk, hdk⟩ := hc
        refine wp_region_list ?_
        rw [hops]
        refine wpList_plain rfl fun K hK => ?_
        have e1 : a.eval (.tmp x') = v := ha.2.2 _ hv
        show Oper.upon P _ a K Q _
        rw [run_lit (ρ := a.eval) e1 rfl hs hr]
        refine hK _ _ ?_
        refine wpList_plain rfl fun K2 hK2 => ?_
        show K2 _ _
        refine hK2 _ _ ?_
        refine wpList_nil ?_
        refine k _ ((ha.put _ htk).put _ hdk) ?_
        have e2 : (a.put (some t') (.bool (l.fits v))).eval (.tmp t') = .bool (l.fits v) := put_at (by rw [ha.1]; exact ht)
        have hsz : (a.put (some t') (.bool (l.fits v))).tmps.size = n := (ha.put _ htk).1
        exact (put_at (by rw [hsz]; exact hd)).trans e2
      · simp at hr
    · simp at hr
  · simp at hr
/-- Tests joined by "||". -/
def rdOr (n x d : Nat) (s : Bool) (keep : List Nat) : Nat → Code → Option (List Lit)
  | 0, _ => none
  | f + 1, c => match c with
    | .seq c (.cond (.tmp d') .skip r) => if d' = d then (rdTst n x d s keep c).bind fun l => (rdOr n x d s keep f r).map (l :: ·) else none
    | c => (rdTst n x d s keep c).map fun l => [l]
theorem rdOr_ok {n x d : Nat} {s : Bool} {fr : List (Nat × Value)} {v : Value} (hv : (x, v) ∈ fr) (hs : isStr v = some s) : ∀ (f : Nat) (c : Code) (L : List Lit), rdOr n x d s (fr.map (·.1)) f c = some L → ∀ {a : Act}, Sees n fr a →
    ∀ {Q : Exit → Act → World → Prop}, (∀ a', Sees n fr a' → a'.tmps.getD d undef = .bool (L.any (·.fits v)) → Q .normal a' w) → c.wp P Q a w := by
  intro f
  induction f with
  | zero => intro c L h; simp [rdOr] at h
  | succ f ih =>
    intro c L h a ha Q k
    unfold rdOr at h
    split at h
    · rename_i c1 d' r
      split at h
      · rename_i hd; subst hd
        cases h1 : rdTst n x d' s (fr.map (·.1)) c1 with
        | none => rw [h1] at h; simp at h
        | some l =>
          cases h2 : rdOr n x d' s (fr.map (·.1)) f r with
          | none => rw [h1, h2] at h; simp at h
          | some L2 =>
            rw [h1, h2] at h
            simp only [Option.bind_some, Option.map_some, Option.some.injEq] at h
            subst h
            refine wp_seq (rdTst_ok h1 hv hs ha fun a' ha' hd' => ?_)
            show (Code.cond _ _ _).wp P Q a' w
            cases hl : l.fits v with
            | true =>
              rw [hl] at hd'
              exact wp_cond_true hd' (wp_skip (k a' ha' (by rw [hd']; simp [hl])))
            | false =>
              rw [hl] at hd'
              exact wp_cond_false hd' (ih r L2 h2 ha' fun a2 ha2 hd2 => k a2 ha2 (by rw [hd2]; simp [hl]))
      · simp at h
    · cases h1 : rdTst n x d s (fr.map (·.1)) c with
      | none => rw [h1] at h; simp at h
      | some l =>
        rw [h1] at h
        simp only [Option.map_some, Option.some.injEq] at h
        subst h
        exact rdTst_ok h1 hv hs ha fun a' ha' hd' => k a' ha' (by rw [hd']; simp)
/-- The chain of cases, and what stands behind it. -/
def rdSw (n x : Nat) (s : Bool) (keep : List Nat) : Nat → Code → Option (List (List Lit × Code) × Code)
  | 0, _ => none
  | f + 1, c => match c with
    | .seq t (.cond (.tmp d) hit rest) => match rdOr n x d s keep 9 t with
      | some L => (rdSw n x s keep f rest).map fun r => ((L, hit) :: r.1, r.2)
      | none => some ([], .seq t (.cond (.tmp d) hit rest))
    | c => some ([], c)
theorem rdSw_ok {n x : Nat} {s : Bool} {fr : List (Nat × Value)} {v : Value} (hv : (x, v) ∈ fr) (hs : isStr v = some s) : ∀ (f : Nat) (c : Code) (cs : List (List Lit × Code)) (dn : Code), rdSw n x s (fr.map (·.1)) f c = some (cs, dn) → ∀ {a : Act}, Sees n fr a →
    (∀ p, cs.find? (fun p => p.1.any (·.fits v)) = some p → ∀ a', Sees n fr a' → p.2.wp P Q a' w) →
    (cs.find? (fun p => p.1.any (·.fits v)) = none → ∀ a', Sees n fr a' → dn.wp P Q a' w) → c.wp P Q a w := by
  intro f
  induction f with
  | zero => intro c cs dn h; simp [rdSw] at h
  | succ f ih =>
    intro c cs dn h a ha hit miss
    unfold rdSw at h
    split at h
    · rename_i t d h1 rest
      cases ho : rdOr n x d s (fr.map (·.1)) 9 t with
      | none =>
        rw [ho] at h
        simp only [Option.some.injEq, Prod.mk.injEq] at h
        obtain ⟨rfl, rfl⟩ := h
        exact miss rfl a ha
      | some L =>
        rw [ho] at h
        cases hr : rdSw n x s (fr.map (·.1)) f rest with
        | none => rw [hr] at h; simp at h
        | some r =>
          rw [hr] at h
          simp only [Option.map_some, Option.some.injEq, Prod.mk.injEq] at h
          obtain ⟨rfl, rfl⟩ := h
          refine wp_seq (rdOr_ok hv hs 9 t L ho ha fun a' ha' hd' => ?_)
          show (Code.cond _ _ _).wp P Q a' w
          cases hl : L.any (·.fits v) with
          | true => rw [hl] at hd'; exact wp_cond_true hd' (hit (L, h1) (by rw [List.find?_cons]; simp [hl]) a' ha')
          | false =>
            rw [hl] at hd'
            refine wp_cond_false hd' (ih rest r.1 r.2 hr ha' (fun p hp => hit p ?_) (fun hp => miss ?_))
            · rw [List.find?_cons]; simp only [hl]; exact hp
            · rw [List.find?_cons]; simp only [hl]; exact hp
    · simp only [Option.some.injEq, Prod.mk.injEq] at h
      obtain ⟨rfl, rfl⟩ := h
      exact miss rfl a ha

/-- A hit that lays constants into two slots and returns. -/
def rdTwo (n : Nat) (keep : List Nat) : Code → Option (Nat × Value × Nat × Value)
  | .seq (.region _ ops false) .ret => match ops.toList with
    | [⟨some a, .assign (.const u), _, _, _, none⟩, ⟨some b, .assign (.const v), _, _, _, none⟩] => if a < n ∧ b < n ∧ a ≠ b ∧ a ∉ keep ∧ b ∉ keep then some (a, u, b, v) else none
    | _ => none
  | _ => none
theorem rdTwo_ok {n : Nat} {fr : List (Nat × Value)} {c : Code} {r : Nat × Value × Nat × Value} (hr : rdTwo n (fr.map (·.1)) c = some r) {a : Act} (ha : Sees n fr a)
    (k : ∀ a', Sees n ((r.2.2.1, r.2.2.2) :: (r.1, r.2.1) :: fr) a' → Q .ret a' w) : c.wp P Q a w := by
  unfold rdTwo at hr
  split at hr
  · rename_i id ops
    split at hr
    · rename_i i u y p af j v y2 p2 af2 hops
      split at hr
      · rename_i hc
        obtain ⟨hi, hj, hij, hik, hjk⟩ := hc
        injection hr with hr; subst hr
        refine wp_seq (wp_region_list ?_)
        rw [hops]
        refine wpList_plain rfl fun K hK => hK _ _ ?_
        refine wpList_plain rfl fun K2 hK2 => hK2 _ _ ?_
        refine wpList_nil ?_
        show Code.ret.wp P Q _ w
        refine wp_ret (k _ ?_)
        exact (ha.set u hik hi).set v (by simp only [List.map_cons, List.mem_cons, not_or]; exact ⟨fun e => hij e.symm, hjk⟩) hj
      · simp at hr
    · simp at hr
  · simp at hr
end Go.Proofs.YtfojfohfhomhbaaGreatDoor
