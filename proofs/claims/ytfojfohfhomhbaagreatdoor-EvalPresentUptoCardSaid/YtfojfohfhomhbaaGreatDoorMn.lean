/- Walks: the reference's sorting. -/
import Derived.Test.YtfojfohfhomhbaaGreatDoorMm
import Derived.Test.YtfojfohfhomhbaaGreatDoorMg
import Derived.Test.YtfojfohfhomhbaaGreatDoorMb
namespace Go.Proofs.YtfojfohfhomhbaaGreatDoor
open Go.RowKit

theorem stepM {done a b : List ByteArray} {k l k' l' : Nat} {x : ByteArray} (h : done ++ mrg (a.drop k) (b.drop l) = mrg a b) (e : mrg (a.drop k) (b.drop l) = x :: mrg (a.drop k') (b.drop l')) : (done ++ [x]) ++ mrg (a.drop k') (b.drop l') = mrg a b := by rw [← h, e]; simp

/-- .. with what is answered either the slice that came or one in memory of its own. -/
def SortPost (L : List ByteArray) (A0 : Option Addr) (w : World) (e : Ending) (w' : World) : Prop := ∃ A n c, e = .returned (.slice A n c) ∧ n ≤ c ∧ n = (sortS L).length ∧ Rd w' w'.heap.size 1 A n (sv (sortS L)) ∧ (∀ ad, A = some ad → A0 = some ad ∨ w.heap.size ≤ ad.block) ∧ Below w.heap.size w w'
theorem sortFew {L : List ByteArray} {w : World} {A : Option Addr} {n c : Nat} (h2 : n < 2) (hc : n ≤ c) (hr : Rd w w.heap.size 1 A n (sv L)) : SortPost L A w (.returned (.slice A n c)) w := by
  have hl : L.length = n := by have := hr.1; simpa using this
  exact ⟨A, n, c, rfl, hc, by rw [sortS_few (by omega)]; exact hl.symm, by rw [sortS_few (by omega)]; exact hr, fun ad e => .inl e, Below.refl _ _⟩
theorem sortDone {L a b done : List ByteArray} {A0 : Option Addr} {w w2 w' : World} {A : Option Addr} {cp : Nat} (hS : sortS L = mrg a b) (h : done ++ [] = mrg a b) (hc : done.length ≤ cp) (hown : w'.ownsRow w2.heap.size 9 1 (.slice A done.length cp) done.length (sv done)) (hb : Below w.heap.size w w2) (hb' : Below w2.heap.size w2 w') :
    SortPost L A0 w (.returned (.slice A done.length cp)) w' := by
  have e : done = sortS L := by rw [hS, ← h]; simp
  subst e
  exact ⟨A, _, cp, rfl, hc, rfl, Rd.ofOwn hown, fun ad e => .inr (Nat.le_trans hb.size (ownLe hown ad.block (by rw [e]; rfl))), belowNext hb hb'⟩

set_option maxHeartbeats 8000000 in
set_option maxRecDepth 100000 in
theorem sorted_any : ∀ (f : Nat) (L : List ByteArray) (A : Option Addr) (n c : Nat) (w : World), n ≤ f → n ≤ c → n ≤ 1099511627776 → Rd w w.heap.size 1 A n (sv L) → Calls Tryz.prog 94 #[.slice A n c] w (SortPost L A w)
  | f, L, A, n, c, w, hf, hc, hn, hr => by
    have hl : L.length = n := by have := hr.1; simpa using this
    by_cases h2 : n < 2
    · have HR := hid (sortFew h2 hc hr)
      clear hr
      go_enter Tryz.func94, Tryz.ntmps94
      go_wp2
      go_ret
      exact HR.out
    · match f, hf with
      | 0, hf => exact absurd hf (by omega)
      | f + 1, hf =>
        obtain ⟨m, hm⟩ : ∃ m : Nat, m = n / 2 := ⟨_, rfl⟩
        have hq : ((n : Nat) : Int).tdiv 2 = (m : Int) := by rw [Int.tdiv_eq_ediv_of_nonneg (by omega)]; omega
        have hm1 : 1 ≤ m := by omega
        have hm2 : m < n := by omega
        obtain ⟨ad, rfl, _, _⟩ := hr.2 (by omega)
        have r1 : Rd w w.heap.size 1 (some ad) m (sv (L.take m)) := by rw [sv_take]; exact hr.take (by omega)
        have r2 : Rd w w.heap.size 1 (some (ad.add m)) (n - m) (sv (L.drop m)) := by rw [sv_drop]; exact hr.drop (by omega)
        have HS := hid (show sortS L = mrg (sortS (L.take m)) (sortS (L.drop m)) by rw [sortS_more (by omega), hl, hm])
        have hk : (n - m : Int) = ((n - m : Nat) : Int) := by omega
        have hS1 := sortS_length (L.take m)
        have hS2 := sortS_length (L.drop m)
        simp only [List.length_take, List.length_drop] at hS1 hS2
        have R1 := hid r1
        have R2 := hid r2
        clear hm r1 r2 hr
        obtain ⟨a, ha⟩ : ∃ a, a = sortS (L.take m) := ⟨_, rfl⟩
        obtain ⟨b, hb⟩ : ∃ b, b = sortS (L.drop m) := ⟨_, rfl⟩
        rw [← ha, ← hb] at HS
        rw [← ha] at hS1
        rw [← hb] at hS2
        have HA := hid ha
        have HB := hid hb
        clear ha hb
        go_enter Tryz.func94, Tryz.ntmps94
        go_wp2_with (fail)
        refine (sorted_any f (L.take m) (some ad) m c w (by omega) (by omega) (by omega) R1.out).mono ?_
        rintro e w1 ⟨A1, n1, c1, rfl, hc1, hn1, ra, _, hb1⟩
        rw [← HA.out] at hn1 ra
        have hb1n : n1 ≤ m := by omega
        have HN1 := hid hn1
        clear hn1
        go_wp2_with (fail)
        refine (sorted_any f (L.drop m) (some (ad.add m)) (n - m) (c - m) w1 (by omega) (by omega) (by omega) (R2.out.up hb1)).mono ?_
        rintro e w2 ⟨A2, n2, c2, rfl, hc2, hn2, rb, _, hb2⟩
        rw [← HB.out] at hn2 rb
        have hb2n : n2 ≤ n - m := by omega
        have HN2 := hid hn2
        clear hn2 hS1 hS2
        have ra2 := ra.up hb2
        have RA := hid ra2
        have RB := hid rb
        have HW := hid (belowNext hb1 hb2)
        clear ra ra2 rb hb1 hb2
        go_wp2_with (fail)
        go_loopw [5, 6, 7] (fun out i j wr => ∃ (k l : Nat) (done : List ByteArray), k ≤ n1 ∧ l ≤ n2 ∧ i = .int .i64 k ∧ j = .int .i64 l ∧ wr.ownsRow w2.heap.size 9 1 out done.length (sv done) ∧
            Hid (done ++ mrg (a.drop k) (b.drop l) = mrg a b) ∧ done.length ≤ k + l ∧ Below w2.heap.size w2 wr) (fun _ i j _ => (n1 - (intOf i).toNat) + (n2 - (intOf j).toNat))
        case atStart => exact ⟨0, 0, [], Nat.zero_le _, Nat.zero_le _, rfl, rfl, World.ownsRow_nil _ _ _ _, hid (by simp), Nat.zero_le _, Below.refl _ _⟩
        case round =>
          obtain ⟨k, l, done, hk, hl2, rfl, rfl, hown, H, hdl, hbw⟩ := hrel
          have ra := RA.out.below hbw
          have rb := RB.out.below hbw
          have hbs := hbw.size
          have HW2 := hid hbw
          clear hbw hq
          by_cases hka : k < n1
          · obtain ⟨ad1, rfl, hka2, hca⟩ := svCell ra hka
            obtain ⟨x, hx⟩ : ∃ x, x = a[k] := ⟨_, rfl⟩
            rw [← hx] at hca
            have HX := hid hx
            have i1 : (k : Int) < n1 := by omega
            have i2 : (0 : Int) ≤ k := by omega
            have g0 : decide ((k : Int) < (n1 : Int)) = true := by simpa using hka
            have g1 : ((k : Int) == (n1 : Int)) = false := by simp; omega
            by_cases hlb : l < n2
            · obtain ⟨ad2, rfl, hlb2, hcb⟩ := svCell rb hlb
              obtain ⟨y, hy⟩ : ∃ y, y = b[l] := ⟨_, rfl⟩
              rw [← hy] at hcb
              have HY := hid hy
              have i3 : (l : Int) < n2 := by omega
              have i4 : (0 : Int) ≤ l := by omega
              have g2 : ((l : Int) == (n2 : Int)) = false := by simp; omega
              clear ra rb hx hy
              cases h1 : Op.bytesLess x.toList y.toList with
              | true =>
                have HN := hid (stepM H.out (x := x) (by rw [HX.out]; exact mrg_left hka2 hlb2 (by rw [← HX.out, ← HY.out]; exact h1)))
                go_wp2
                go_quiet (fail)
                go_wp2_with (at_builtin; refine app2 rfl _ _ 23 rfl w2.heap.size 9 _ 16 Tryz.underlying23 info_str rfl _ _ _ rfl (ownDrew hown) rfl rfl hbs (by omega) (by omega) ?_; intro v1 w3 hown3 hb3; have HB3 := hid ((belowN HW2.out nq).trans hb3); clear hb3 hown)
                go_roundw
                case rel => exact ⟨k + 1, l, done ++ [x], by omega, by omega, by go_num, rfl, by rw [sv_snoc]; simpa using hown3, HN, by simp; omega, HB3.out⟩
                case measure => simp [intOf]; omega
              | false =>
                cases h2 : Op.bytesLess y.toList x.toList with
                | true =>
                  have HN := hid (stepM H.out (x := y) (by rw [HY.out]; exact mrg_right hka2 hlb2 (by rw [← HX.out, ← HY.out]; exact h1) (by rw [← HX.out, ← HY.out]; exact h2)))
                  go_wp2
                  go_quiet (fail)
                  go_wp2
                  go_quiet (fail)
                  go_wp2_with (at_builtin; refine app2 rfl _ _ 23 rfl w2.heap.size 9 _ 16 Tryz.underlying23 info_str rfl _ _ _ rfl (ownDrew hown) rfl rfl hbs (by omega) (by omega) ?_; intro v1 w3 hown3 hb3; have HB3 := hid ((belowN HW2.out _).trans hb3); clear hb3 hown)
                  go_roundw
                  case rel => exact ⟨k, l + 1, done ++ [y], by omega, by omega, rfl, by go_num, by rw [sv_snoc]; simpa using hown3, HN, by simp; omega, HB3.out⟩
                  case measure => simp [intOf]; omega
                | false =>
                  have HN := hid (by have := H.out; rw [mrg_both hka2 hlb2 (by rw [← HX.out, ← HY.out]; exact h1) (by rw [← HX.out, ← HY.out]; exact h2)] at this; exact this)
                  go_wp2
                  go_quiet (fail)
                  go_wp2
                  go_quiet (fail)
                  go_wp2
                  go_roundw
                  case rel => exact ⟨k + 1, l, done, by omega, by omega, by go_num, rfl, ownDrew hown, HN, by omega, belowN HW2.out _⟩
                  case measure => simp [intOf]; omega
            · have g2 : ((l : Int) == (n2 : Int)) = true := by simp; omega
              have HN := hid (stepM H.out (x := x) (by rw [HX.out]; exact mrg_end1 hka2 (by have := HN2.out; omega)))
              clear ra rb hx
              go_wp2
              go_quiet (fail)
              go_wp2_with (at_builtin; refine app2 rfl _ _ 23 rfl w2.heap.size 9 _ 16 Tryz.underlying23 info_str rfl _ _ _ rfl (ownDrew hown) rfl rfl hbs (by omega) (by omega) ?_; intro v1 w3 hown3 hb3; have HB3 := hid ((belowN HW2.out nq).trans hb3); clear hb3 hown)
              go_roundw
              case rel => exact ⟨k + 1, l, done ++ [x], by omega, by omega, by go_num, rfl, by rw [sv_snoc]; simpa using hown3, HN, by simp; omega, HB3.out⟩
              case measure => simp [intOf]; omega
          · have hla := HN1.out
            have hlb0 := HN2.out
            have HLA := hid hla
            have HLB := hid hlb0
            have hka3 : a.length ≤ k := by omega
            have hlb3 : ∀ l, n2 ≤ l → b.length ≤ l := fun l h => by omega
            clear hla hlb0
            have g0 : decide ((k : Int) < (n1 : Int)) = false := by simp; omega
            have g1 : ((k : Int) == (n1 : Int)) = true := by simp; omega
            by_cases hlb : l < n2
            · obtain ⟨ad2, rfl, hlb2, hcb⟩ := svCell rb hlb
              obtain ⟨y, hy⟩ : ∃ y, y = b[l] := ⟨_, rfl⟩
              rw [← hy] at hcb
              have HY := hid hy
              have i3 : (l : Int) < n2 := by omega
              have i4 : (0 : Int) ≤ l := by omega
              have g2 : ((l : Int) == (n2 : Int)) = false := by simp; omega
              have HN := hid (stepM H.out (x := y) (by rw [HY.out]; exact mrg_end2 hka3 hlb2))
              clear ra rb hy
              go_wp2
              go_quiet (fail)
              go_wp2
              go_quiet (fail)
              go_wp2_with (at_builtin; refine app2 rfl _ _ 23 rfl w2.heap.size 9 _ 16 Tryz.underlying23 info_str rfl _ _ _ rfl (ownDrew hown) rfl rfl hbs (by omega) (by omega) ?_; intro v1 w3 hown3 hb3; have HB3 := hid ((belowN HW2.out _).trans hb3); clear hb3 hown)
              go_roundw
              case rel => exact ⟨k, l + 1, done ++ [y], by omega, by omega, rfl, by go_num, by rw [sv_snoc]; simpa using hown3, HN, by simp; omega, HB3.out⟩
              case measure => simp [intOf]; omega
            · have HN := hid (by have := H.out; rw [mrg_end hka3 (hlb3 _ (by omega))] at this; exact this)
              obtain ⟨A3, cp, rfl, hcp⟩ := ownForm hown
              clear ra rb
              go_wp2
              go_ret
              exact sortDone HS.out HN.out hcp hown HW.out HW2.out
end Go.Proofs.YtfojfohfhomhbaaGreatDoor
