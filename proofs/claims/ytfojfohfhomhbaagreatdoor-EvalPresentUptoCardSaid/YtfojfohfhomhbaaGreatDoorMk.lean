/- Walks: the law's copy of an entry. -/
import Derived.Test.YtfojfohfhomhbaaGreatDoorMj
import Derived.Test.YtfojfohfhomhbaaGreatDoorMi
namespace Go.Proofs.YtfojfohfhomhbaaGreatDoor
open Go.RowKit

/-- The copies of attributes: texts as they were, values in memory of their own from block 'base' on, the mark behind them. -/
def attrCs (a : AttrD) (v : Value) : List Value := [.string a.desc, .string a.canon, v]
def Copies (base : Nat) (w : World) : List AttrD → List Value → Prop
  | [], xs => xs = []
  | a :: l, xs => ∃ v ys, xs = attrCs a v ++ ys ∧ Roomy a.vals base w v ∧ Copies base w l ys
theorem Copies.snoc {base : Nat} {w : World} : ∀ {l : List AttrD} {xs : List Value} {a : AttrD} {v : Value}, Copies base w l xs → Roomy a.vals base w v → Copies base w (l ++ [a]) (xs ++ attrCs a v)
  | [], xs, a, v, h, hv => by
    have h : xs = [] := h
    subst h
    exact ⟨v, [], by simp, hv, rfl⟩
  | b :: l, xs, a, v, h, hv => by
    obtain ⟨u, ys, rfl, hu, hl⟩ := h
    exact ⟨u, ys ++ attrCs a v, by simp, hu, hl.snoc hv⟩
theorem Copies.step {base base' : Nat} {w w' : World} (hs : ∀ L v, Roomy L base w v → Roomy L base' w' v) : ∀ {l : List AttrD} {xs : List Value}, Copies base w l xs → Copies base' w' l xs
  | [], _, h => h
  | _ :: _, _, ⟨u, ys, e, hu, hl⟩ => ⟨u, ys, e, hs _ _ hu, hl.step hs⟩
theorem info_attr : (Tryz.prog.info? 41).map (fun i => (i.zero, i.size, i.bytes)) = some (some (.agg #[.string ByteArray.empty, .string ByteArray.empty, .slice none 0 0]), 3, 56) := by kernel_rfl
theorem Copies.below {base : Nat} {w w' : World} {l : List AttrD} {xs : List Value} (h : Copies base w l xs) (hb : Below w.heap.size w w') : Copies base w' l xs := h.step fun _ _ hr => hr.below hb
theorem Copies.set {base : Nat} {w : World} {l : List AttrD} {xs : List Value} {a : Addr} {u : Value} (h : Copies base w l xs) (ha : a.block < base) : Copies base (w.setCell a u) l xs := h.step fun _ _ hr => hr.set ha
/-- A row of attributes is no row of texts: so what is appended to the one leaves the other. -/
theorem Roomy.grown {L : List ByteArray} {base base' n : Nat} {w w' : World} {v u : Value} {xs : List Value} (h : Roomy L base w v) (ho : w.ownsRow base' 41 3 u n xs) (hg : w.grownBy w' u.ownBlock) : Roomy L base w' v := by
  obtain ⟨g, c, e, hb, hr⟩ := h
  refine ⟨g, c, e, hb, ownsHeap hr fun g' hg' => hg.block g' (hr.lt g' hg').2 (fun e1 => ?_)⟩
  rcases hr.2 with ⟨h0, _⟩ | ⟨g1, cap, cur, hv, _, hh, _⟩
  · rw [h0] at hg'; cases hg'
  · rw [hv] at hg'
    injection hg' with hg'
    subst hg'
    rcases ho.2 with ⟨h0, _⟩ | ⟨g2, cap2, cur2, hv2, _, hh2, _⟩
    · rw [h0] at e1; cases e1
    · rw [hv2] at e1
      injection e1 with e1
      change g1 = g2 at e1
      subst e1
      rw [hh] at hh2
      injection hh2 with hh2
      injection hh2 with _ h3 _
      exact absurd h3 (by decide)
theorem attrStep {base k : Nat} {w4 w3 : World} {v av kv : Value} {xs : List Value} {l : List AttrD} {a : AttrD} {KL : List ByteArray} (hO : w4.ownsRow base 41 3 v k xs) (hC : Copies base w4 l xs) (hav : Roomy a.vals base w4 av) (hKU : Roomy KL base w4 kv) (hg : w4.grownBy w3 v.ownBlock) :
    Copies base w3 (l ++ [a]) (xs ++ attrCs a av) ∧ Roomy KL base w3 kv := ⟨(hC.step fun _ _ h => h.grown hO hg).snoc (hav.grown hO hg), hKU.grown hO hg⟩
/-- 'append(out, x)' of one element of three cells, laid in a new block just ahead. -/
theorem app4 {P : Program} {wr : World} {e' : TypeId} {u0 u1 u2 : Value} {ops : Array Oper} {rest : List Oper} {o : Oper} {a : Act} {Q : Exit → Act → World → Prop} (hgd : o.guard = none) (s x : Operand) (t : TypeId)
    (ho : o.op = .call { callee := .builtin .append, args := #[s, x], argTypes := #[t, t] })
    (base : Nat) (e : TypeId) (z : Value) (bytes : Nat) (ht : P.underlying t = some (.slice e)) (hi : (P.info? e).map (fun i => (i.zero, i.size, i.bytes)) = some (some z, 3, bytes)) (hzs : z.cells.size = 3)
    (v : Value) (n : Nat) (xs : List Value) (hs : a.eval s = v) (hown : wr.ownsRow base e 3 v n xs)
    (hx : a.eval x = .slice (some ⟨wr.heap.size, 0, none⟩) 1 1) (h0 : u0.oneCell' = true) (h1 : u1.oneCell' = true) (h2 : u2.oneCell' = true) (hbase : base ≤ wr.heap.size)
    (hn : (n + 1) * bytes ≤ 140737488355328) (h63 : n + 1 ≤ 1099511627776)
    (h : ∀ v' w', w'.ownsRow base e 3 v' (n + 1) (xs ++ [u0, u1, u2]) → (wr.alloc (.cells #[u0, u1, u2] e')).grownBy w' v.ownBlock → wpList P ops Q rest (a.put o.dst v') w') :
    wpList P ops Q (o :: rest) a (wr.alloc (.cells #[u0, u1, u2] e')) := by
  obtain ⟨i, hi1, hz0, hz1, hz2⟩ := info_parts hi
  refine wpList_append_own_at _ hgd s x t ho base e i z 3 bytes ht hi1 hz0 hz1 hz2 hzs (by decide) v n xs hs (hown.alloc _) ⟨wr.heap.size, 0, none⟩ 1 1 [u0, u1, u2] hx rfl (fun j u hu => ?_) ?_ (by unfold maxLen; omega) hn (by simp; omega) fun v' w' h2 h3 _ _ => h v' w' h2 h3
  · have e1 : (⟨wr.heap.size, 0, none⟩ : Addr).add j = ⟨wr.heap.size, j, none⟩ := by by_cases h0 : j = 0 <;> simp [Addr.add, h0]
    rw [e1, cell_of_row _ _ _ _ _ _ (heap_alloc_new _ _)]
    simpa using hu
  · intro u hu
    simp at hu
    rcases hu with rfl | rfl | rfl <;> assumption
def EntBox (w : World) (g : Nat) (ln : Int) (nm : ByteArray) (u : Value) (A : Option Addr) (n c : Nat) : Prop := w.heap[g]? = some (.cells #[.int .i64 ln, .string nm, u, .slice A n c] 30 (0, 0))
def EntNil (w : World) (g : Nat) : Prop := w.heap[g]? = some (.cells #[.int .i64 0, .string ⟨#[]⟩, .slice none 0 0, .slice none 0 0] 30 (0, 0))
theorem EntBox.facts {w : World} {g : Nat} {ln : Int} {nm : ByteArray} {u : Value} {A : Option Addr} {n c : Nat} (h : EntBox w g ln nm u A n c) : w.cell? ⟨g, 0, none⟩ = some (.int .i64 ln) ∧ w.cell? ⟨g, 1, none⟩ = some (.string nm) ∧ w.cell? ⟨g, 2, none⟩ = some u ∧ w.cell? ⟨g, 3, none⟩ = some (.slice A n c) ∧ w.frozen? ⟨g, 2, none⟩ = false ∧ w.frozen? ⟨g, 3, none⟩ = false :=
  ⟨blkCell h 0, blkCell h 1, blkCell h 2, blkCell h 3, blkFree h 2, blkFree h 3⟩
/-- The copy of an entry: its key, its attributes, the marks behind them. -/
def CopyAt (base : Nat) (w : World) (KL : List ByteArray) (L : List AttrD) (ku au : Value) : Prop := Roomy KL base w ku ∧ ∃ (g c : Nat) (xs : List Value), au = .slice (some ⟨g, 0, none⟩) L.length c ∧
  w.ownsRow base 41 3 (.slice (some ⟨g, 0, none⟩) (L.length + 1) c) (L.length + 1) (xs ++ [.string spareS, .string ⟨#[]⟩, .slice none 0 0]) ∧ Copies base w L xs

theorem copyDone {KL : List ByteArray} {L : List AttrD} {g0 k c4 : Nat} {w3 : World} {A4 : Option Addr} {ku u0 u1 u2 u3 u4 : Value} {xs : List Value} (hl : L.length = k) (hku : Roomy KL (g0 + 2) w3 ku) (hO : w3.ownsRow (g0 + 2) 41 3 (.slice A4 (k + 1) c4) (k + 1) (xs ++ [.string ⟨#[115, 112, 97, 114, 101, 32, 114, 111, 111, 109]⟩, .string ⟨#[]⟩, .slice none 0 0])) (hC : Copies (g0 + 2) w3 L xs) :
    CopyAt g0 (((((w3.setCell ⟨g0, 3, none⟩ u0).setCell ⟨g0 + 1, 0, none⟩ u1).setCell ⟨g0 + 1, 1, none⟩ u2).setCell ⟨g0 + 1, 2, none⟩ u3).setCell ⟨g0 + 1, 3, none⟩ u4) KL L ku (.slice A4 k c4) := by
  subst hl
  have hb : ∀ (w : World) (a : Addr) (u : Value), a.block < g0 + 2 → (∀ L' v', Roomy L' (g0 + 2) w v' → Roomy L' (g0 + 2) (w.setCell a u) v') := fun w a u ha L' v' h => h.set ha
  have hall : ∀ L' v', Roomy L' (g0 + 2) w3 v' → Roomy L' (g0 + 2) (((((w3.setCell ⟨g0, 3, none⟩ u0).setCell ⟨g0 + 1, 0, none⟩ u1).setCell ⟨g0 + 1, 1, none⟩ u2).setCell ⟨g0 + 1, 2, none⟩ u3).setCell ⟨g0 + 1, 3, none⟩ u4) v' := fun L' v' h =>
    ((((h.set (by simp)).set (by simp)).set (by simp)).set (by simp)).set (by simp)
  refine ⟨(hall _ _ hku).base (by omega), ?_⟩
  rcases hO.2 with ⟨h0, _⟩ | ⟨g, cap, cur, hv, hg, hh, _⟩
  · injection h0 with _ h1 _; omega
  · injection hv with h1 _ h3
    subst h1
    refine ⟨g, c4, xs, rfl, ?_, hC.step fun L' v' h => (hall L' v' h).base (by omega)⟩
    refine ownsBase (base := g0 + 2) (ownsHeap hO fun g' hg' => ?_) (by omega)
    have hgg := ownLe hO g' hg'
    rw [heap_setCell_other _ _ _ _ (by simp; omega), heap_setCell_other _ _ _ _ (by simp; omega), heap_setCell_other _ _ _ _ (by simp; omega), heap_setCell_other _ _ _ _ (by simp; omega), heap_setCell_other _ _ _ _ (by simp; omega)]

set_option maxHeartbeats 8000000 in
set_option maxRecDepth 100000 in
theorem copyentry_any (KL : List ByteArray) (L : List AttrD) (nm : ByteArray) (ln : Int) (KA A : Option Addr) (kn kc n c : Nat) (w : World) (hkr : Rd w w.heap.size 1 KA kn (sv KL)) (hkc : SlOk KA kn kc) (hkn : kn ≤ 1099511) (hr : AttrsAt w w.heap.size A n L) (hn : n ≤ 1099511) (hv : ∀ a ∈ L, a.vals.length ≤ 1099511) :
    Calls Tryz.prog 6 #[.agg #[.int .i64 ln, .string nm, .slice KA kn kc, .slice A n c]] w fun e w' => ∃ ku au, e = .returned (.agg #[.int .i64 ln, .string nm, ku, au]) ∧ CopyAt w.heap.size w' KL L ku au ∧ Below w.heap.size w w' := by
  have HK := hid hkr
  have HKC := hid hkc
  have HR := hid hr
  have HV := hid hv
  have hl : L.length = n := hr.1
  have HB := hid (below2 w (.cells #[.int .i64 ln, .string nm, .slice KA kn kc, .slice A n c] 30) (.cells #[.int .i64 0, .string ⟨#[]⟩, .slice none 0 0, .slice none 0 0] 30))
  clear hkr hkc hr hv
  go_enter Tryz.func6, Tryz.ntmps6
  go_wp2_with (fail)
  go_must (refine (roomy_any KL KA kn kc _ ((HK.out.up (below1 w _)).up (below1 _ _)) HKC.out hkn).mono ?_)
  rintro e w1 ⟨ku, rfl, hku, hb1⟩
  have HE1 := hid (show EntBox w1 w.heap.size ln nm (.slice KA kn kc) A n c from (hb1.block w.heap.size (by simp; omega)).trans (heap_alloc2_old w _ _))
  have HZ1 := hid (show EntNil w1 (w.heap.size + 1) from (hb1.block (w.heap.size + 1) (by simp)).trans (heap_alloc2_new w _ _))
  have HW1 := hid (belowNext HB.out hb1)
  have HKU1 := hid (show Roomy KL (w.heap.size + 2) w1 ku by simpa using hku)
  obtain ⟨kg, kc', rfl, _, _⟩ := hku
  obtain ⟨b0, b1, b2, b3, f2, f3⟩ := HE1.out.facts
  clear hb1
  go_wp2
  go_loopw [3, 4, 5] (fun v j _ wr => ∃ (k : Nat) (xs : List Value), k ≤ n ∧ j = .int .i64 k ∧ Hid (wr.ownsRow (w.heap.size + 2) 41 3 v k xs) ∧ Hid (Copies (w.heap.size + 2) wr (L.take k) xs) ∧ Hid (EntBox wr w.heap.size ln nm (.slice (some ⟨kg, 0, none⟩) KL.length kc') A n c) ∧ Hid (EntNil wr (w.heap.size + 1)) ∧
      Hid (Roomy KL (w.heap.size + 2) wr (.slice (some ⟨kg, 0, none⟩) KL.length kc')) ∧ Hid (Below w.heap.size w wr)) (fun _ j _ _ => n - (intOf j).toNat)
  case atStart =>
    exact ⟨0, [], Nat.zero_le _, rfl, hid (World.ownsRow_nil _ _ _ _), hid rfl, hid (blkSet HE1.out 2 _), hid ((heap_setCell_other _ _ _ _ (by simp)).trans HZ1.out), hid (HKU1.out.set (by simp)), hid (HW1.out.setCell (Nat.le_refl _) _)⟩
  case round =>
    clear HE1 HZ1 HW1 HKU1 b0 b1 b2 b3 f2 f3
    obtain ⟨k, xs, hk, rfl, HO, HC, HE, HZ, HKU, HW⟩ := hrel
    obtain ⟨_, _, _, b3, _, _⟩ := HE.out.facts
    have hzl := (Array.getElem?_eq_some_iff.1 HZ.out).1
    by_cases hlt : k < n
    · obtain ⟨ad, rfl, hadb, hka, hat⟩ := (HR.out.below HW.out).at hlt
      obtain ⟨a, ha⟩ : ∃ a, a = L[k] := ⟨_, rfl⟩
      have hav := HV.out _ (List.getElem_mem hka)
      rw [← ha] at hat hav
      obtain ⟨h1, h2, B, m, cc, h3, h4, h5⟩ := hat.forms
      have HA := hid ha
      have HH4 := hid h4
      have HH5 := hid h5
      have hm : m ≤ 1099511 := by have := h5.1; simp at this; omega
      have hws := HW.out.size
      clear ha hat h4 h5
      have hbW := (below1 wr (.cells #[.string a.desc, .string a.canon, .slice B m cc] 41))
      have HBW := hid hbW
      clear hbW
      go_wp2_with (fail)
      go_must (refine (roomy_any a.vals B m cc _ ((HH5.out.below (HBW.out.mono hws)).more (Nat.le_trans hws HBW.out.size)) HH4.out hm).mono ?_)
      rintro e w2 ⟨av, rfl, hav2, hb2⟩
      have HBX := hid (HBW.out.trans (hb2.mono HBW.out.size))
      have HT2 := hid ((hb2.block wr.heap.size (by simp)).trans (heap_alloc_new wr _))
      have HAV := hid (show Roomy a.vals (wr.heap.size + 1) w2 av by simpa using hav2)
      obtain ⟨ag, ac, rfl, _, _⟩ := hav2
      have t0 : w2.cell? ⟨wr.heap.size, 0, none⟩ = some (.string a.desc) := blkCell HT2.out 0
      have t1 : w2.cell? ⟨wr.heap.size, 1, none⟩ = some (.string a.canon) := blkCell HT2.out 1
      have t2 := blkFree HT2.out 2
      have t3 : w2.cell? ⟨wr.heap.size, 2, none⟩ = some (.slice B m cc) := blkCell HT2.out 2
      have hs2 := HBX.out.size
      have HB4 := hid (show Below wr.heap.size wr (w2.setCell ⟨wr.heap.size, 2, none⟩ (.slice (some ⟨ag, 0, none⟩) a.vals.length ac)) from HBX.out.setCell (Nat.le_refl _) _)
      have HO4 := hid (ownsBelow HO.out HB4.out)
      clear hb2 h1 h2 h3
      go_wp2_with (at_builtin; go_must (refine app4 rfl _ _ 28 rfl (w.heap.size + 2) 41 _ 56 Tryz.underlying28 info_attr rfl _ _ _ rfl HO4.out (by simp [Act.eval]) rfl rfl rfl (by simp; omega) (by omega) (by omega) ?_)
                   intro v3 w3 hown3 hg3
                   have HO3 := hid hown3
                   have hb4 := HB4.out.alloc HB4.out.size (.cells #[.string a.desc, .string a.canon, .slice (some ⟨ag, 0, none⟩) a.vals.length ac] 41)
                   have hst := attrStep (a := a) (HO4.out.alloc _) (HC.out.below hb4) (((HAV.out.set (by simp)).below (below1 _ _)).base (by omega)) (HKU.out.below hb4) hg3
                   have hne : ∀ i, i < w.heap.size + 2 → i < wr.heap.size → w3.heap[i]? = wr.heap[i]? := fun i h1 h2 => (hg3.block i (Nat.lt_of_lt_of_le h2 hb4.size) (fun e1 => by have := ownLe HO4.out i e1.symm; omega)).trans (hb4.block i h2)
                   have HE3 := hid (show EntBox w3 w.heap.size ln nm (.slice (some ⟨kg, 0, none⟩) KL.length kc') (some ad) n c from (hne _ (by omega) (by omega)).trans HE.out)
                   have HZ3 := hid (show EntNil w3 (w.heap.size + 1) from (hne _ (by omega) (by omega)).trans HZ.out)
                   have HC3 := hid hst.1
                   have HKU3 := hid hst.2
                   have HW3 := hid (Below.grown (HW.out.trans (hb4.mono hws)) hg3 (Nat.le_trans hws hb4.size) (fun i e1 => by have := ownLe HO4.out i e1; omega))
                   clear hown3 hg3 hst hne hb4)
      go_roundw
      case rel => exact ⟨k + 1, _, by omega, by go_num, HO3, hid (by rw [List.take_succ_eq_append_getElem hka, ← HA.out]; exact HC3.out), HE3, HZ3, HKU3, HW3⟩
      case measure => simp [intOf]; omega
    · have hk2 : k = n := by omega
      subst hk2
      have HCL := hid (show Copies (w.heap.size + 2) wr L xs by have := HC.out; rwa [List.take_of_length_le (by omega)] at this)
      obtain ⟨A3, c3, rfl, _⟩ := ownForm HO.out
      have hws := HW.out.size
      clear HC
      go_wp2_with (at_builtin; go_must (refine app4 rfl _ _ 28 rfl (w.heap.size + 2) 41 _ 56 Tryz.underlying28 info_attr rfl _ _ _ rfl HO.out rfl rfl rfl rfl (by omega) (by omega) (by omega) ?_)
                   intro v3 w3 hown3 hg3
                   obtain ⟨A4, c4, rfl, hc4⟩ := ownForm hown3
                   have hb4 := below1 wr (.cells #[.string ⟨#[115, 112, 97, 114, 101, 32, 114, 111, 111, 109]⟩, .string ⟨#[]⟩, .slice none 0 0] 41)
                   have hO4 := ownsBelow HO.out hb4
                   have hne : ∀ i, i < w.heap.size + 2 → i < wr.heap.size → w3.heap[i]? = wr.heap[i]? := fun i h1 h2 => (hg3.block i (Nat.lt_of_lt_of_le h2 hb4.size) (fun e1 => by have := ownLe HO.out i e1.symm; omega)).trans (hb4.block i h2)
                   have HE3 := hid (show EntBox w3 w.heap.size ln nm (.slice (some ⟨kg, 0, none⟩) KL.length kc') A k c from (hne _ (by omega) (by omega)).trans HE.out)
                   have HZ3 := hid (show EntNil w3 (w.heap.size + 1) from (hne _ (by omega) (by omega)).trans HZ.out)
                   have HC3 := hid ((HCL.out.below hb4).step fun _ _ h => h.grown hO4 hg3)
                   have HKU3 := hid ((HKU.out.below hb4).grown hO4 hg3)
                   have HW3 := hid (Below.grown (HW.out.trans (hb4.mono hws)) hg3 (Nat.le_trans hws hb4.size) (fun i e1 => by have := ownLe HO.out i e1; omega))
                   have HO3 := hid hown3
                   obtain ⟨x0, x1, x2, x3, y2, y3⟩ := HE3.out.facts
                   have q0 : w3.cell? ⟨w.heap.size + 1, 0, none⟩ = some (.int .i64 0) := blkCell HZ3.out 0
                   have q1 : w3.cell? ⟨w.heap.size + 1, 1, none⟩ = some (.string ⟨#[]⟩) := blkCell HZ3.out 1
                   have q2 : w3.cell? ⟨w.heap.size + 1, 2, none⟩ = some (.slice none 0 0) := blkCell HZ3.out 2
                   have q3 : w3.cell? ⟨w.heap.size + 1, 3, none⟩ = some (.slice none 0 0) := blkCell HZ3.out 3
                   have z0 := blkFree HZ3.out 0
                   have z1 := blkFree HZ3.out 1
                   have z2 := blkFree HZ3.out 2
                   have z3 := blkFree HZ3.out 3
                   clear hown3 hg3 hne hb4 hO4)
      exact bodyPost_ret (results_cell_row rfl _ _ (w.heap.size + 1) _ _ (0, 0) _ rfl (blkSet (blkSet (blkSet (blkSet ((heap_setCell_other _ _ _ _ (by simp)).trans HZ3.out) 0 _) 1 _) 2 _) 3 _) Tryz.underlying30 rfl (by kernel_rfl)) rfl
        ⟨_, _, rfl, copyDone hl HKU3.out HO3.out HC3.out, ((((HW3.out.setCell (Nat.le_refl _) _).setCell (Nat.le_succ _) _).setCell (Nat.le_succ _) _).setCell (Nat.le_succ _) _).setCell (Nat.le_succ _) _⟩
end Go.Proofs.YtfojfohfhomhbaaGreatDoor
