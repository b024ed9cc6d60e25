/- The walk of LaySplits: whatever the lay, the hour and the stretches, it returns true, and old memory is as it was. -/
import Derived.Test.YtpflojfdlmdmfaaPlainS
import Derived.Test.YtpflojfdlmdmfaaRefC
import Derived.Test.YtpflojfdlmdmfaaSplit
import Derived.Test.YtpflojfdlmdmfaaMayEq
namespace Go.Proofs.Ytpflojfdlmdmfaa
open Go.RowKit

set_option maxRecDepth 100000 in
set_option maxHeartbeats 4000000 in
theorem laySplits_any (w : World) (l : La) (m : Int) (A : Option Addr) (n c : Nat) (ss : Nat → St) (hn : n ≤ maxLen) (hm : i64b m) (hS : Sts w A n ss) :
    Calls Try.prog 7 #[laV l, .int .i64 m, .slice A n c] w fun e w' => e = .returned (.bool true) ∧ Below w.heap.size w w' := by
  have HS := Lib.hid hS
  have HN := Lib.hid hn
  have HM := Lib.hid hm
  unfold maxLen at hn
  clear hS hm
  go_enter Try.func7, Try.ntmps7
  go_wp2_with fail
  refine (awake_any _).mono ?_
  rintro e w1 ⟨rfl, hb⟩
  have HB : Hid (Below w.heap.size w w1) := ((Below.refl _ w).alloc (Nat.le_refl _) (laO l)).trans (hb.mono (by simp))
  have HX : Hid (w1.heap[w.heap.size]? = some (laO l)) := (hb.block w.heap.size (by simp)).trans (heap_alloc_new w (laO l))
  clear hb
  by_cases h60 : 30 < n
  · have h60' : (30 : Int) < (n : Int) := by omega
    go_wp2_with fail
    go_ret
    exact ⟨rfl, HB.out⟩
  · have h60' : ¬ (30 : Int) < (n : Int) := by omega
    go_wp2_with fail
    refine (long_any w1 A n c 2000 ss HN.out (HS.out.below HB.out)).mono ?_
    rintro e w2 ⟨rfl, hb⟩
    have HB2 : Hid (Below w.heap.size w w2) := HB.out.trans (hb.mono HB.out.size)
    have HX2 : Hid (w2.heap[w.heap.size]? = some (laO l)) := (hb.block w.heap.size (heap_lt HX.out)).trans HX.out
    obtain ⟨b0, b1, b2⟩ := box3 HX2.out
    clear hb
    cases hlb : longB ss n 2000 with
    | true =>
      go_wp2_with fail
      go_ret
      exact ⟨rfl, HB2.out⟩
    | false =>
      go_wp2_with fail
      refine (split_any w2 l m A n c ss HN.out HM.out (HS.out.below HB2.out)).mono ?_
      rintro e w3 ⟨a, b, x, rfl, hb, hp⟩
      have HB3 : Hid (Below w.heap.size w w3) := HB2.out.trans (hb.mono HB2.out.size)
      have HX3 : Hid (w3.heap[w.heap.size]? = some (laO l)) := (hb.block w.heap.size (heap_lt HX2.out)).trans HX2.out
      obtain ⟨c0, c1, c2⟩ := box3 HX3.out
      have HP := Lib.hid hp
      clear hb hp
      go_wp2_with fail
      refine (used_any w3 l A n c ss HN.out (HS.out.below HB3.out)).mono ?_
      rintro e w4 ⟨u, y, rfl, hb, hu⟩
      have HB4 : Hid (Below w.heap.size w w4) := HB3.out.trans (hb.mono HB3.out.size)
      have HX4 : Hid (w4.heap[w.heap.size]? = some (laO l)) := (hb.block w.heap.size (heap_lt HX3.out)).trans HX3.out
      obtain ⟨d0, d1, d2⟩ := box3 HX4.out
      have hxy : y = x ∧ (x ≠ 0 → a = 0 ∧ b = 0) ∧ (x = 0 → mayB l = true ∧ (∀ j, j < n → wrongE ss j = 0) ∧ a = useN (2 * l.free) m ss n ∧ b = (runN (2 * l.free) ss n).1 - useN (2 * l.free) m ss n ∧ u = (runN (2 * l.free) ss n).1) := by
        rcases HP.out with ⟨p1, p2, p3, p4⟩ | ⟨p1, ⟨k, p2, p3⟩, p4, p5⟩ | ⟨p1, p2, p3, p4, p5⟩ <;> rcases hu with ⟨q1, q2, q3⟩ | ⟨q1, ⟨k', q2, q3⟩, q4⟩ | ⟨q1, q2, q3, q4⟩
        · exact ⟨q3.trans p4.symm, fun _ => ⟨p2, p3⟩, fun h => by omega⟩
        · rw [q1] at p1; cases p1
        · rw [q1] at p1; cases p1
        · rw [q1] at p1; cases p1
        · exact ⟨(q2.unique p2).2, fun _ => ⟨p4, p5⟩, fun h => absurd h p3⟩
        · exact absurd (p2.unique q2).2 p3
        · rw [q1] at p1; cases p1
        · exact absurd (q2.unique p2).2 q3
        · exact ⟨q3.trans p3.symm, fun h => absurd p3 h, fun _ => ⟨p1, p2.2.1, p4, p5, q4⟩⟩
      obtain ⟨rfl, h1, h2⟩ := hxy
      clear hb hu HP
      by_cases h0 : y = 0
      · subst h0
        obtain ⟨hmay, hr, rfl, rfl, rfl⟩ := h2 rfl
        have hl := may_free hmay
        have HR := Lib.hid (refused_any w4 l A n c m ss HN.out (HS.out.below HB4.out) hl hr)
        have g1 := (useN_bounds (F := 2 * l.free) (m := m) hr n (Nat.le_refl _)).1
        have g2 := runN_fits (F := 2 * l.free) hr n (Nat.le_refl _)
        have g3 : useN (2 * l.free) m ss n ≤ (runN (2 * l.free) ss n).1 := by
          rw [runN_use hr]
          by_cases hm : m ≤ 1048577
          · exact useN_mono _ hm hr
          · by_cases hn0 : n = 0
            · subst hn0; exact Int.le_refl _
            · have he : endN ss n ≤ 1048577 := by
                obtain ⟨j, rfl⟩ : ∃ j, n = j + 1 := ⟨n - 1, by omega⟩
                have := (ok_of (hr j (by omega))).1.2.2.1
                rw [endN_succ]; omega
              rw [useN_past (2 * l.free) hr n (Nat.le_refl _) (m := m) (m' := 1048577) (by omega) he]
              exact Int.le_refl _
        clear h1 h2 hr
        generalize useN (2 * l.free) m ss n = v at *
        generalize (runN (2 * l.free) ss n).1 = u at *
        have e1 : IntKind.i64.wrap (v + (u - v)) = u := by rw [IntWalk.i64_in _ (by omega)]; omega
        have e2 : 0 ≤ u - v := by omega
        go_wp2_with fail
        refine HR.out.mono ?_
        rintro e w5 ⟨rfl, hb⟩
        have HB5 : Hid (Below w.heap.size w w5) := HB4.out.trans (hb.mono HB4.out.size)
        clear hb
        go_wp2_with fail
        go_ret
        exact ⟨rfl, HB5.out⟩
      · obtain ⟨rfl, rfl⟩ := h1 h0
        have hxb : (y == 0) = false := by rw [beq_eq_false_iff_ne]; exact h0
        clear h0 h1 h2
        go_wp2_with fail
        go_ret
        exact ⟨rfl, HB4.out⟩
end Go.Proofs.Ytpflojfdlmdmfaa
