/- The walks of lay.May and of the document's May: the world behind them, to the block. -/
import Derived.Test.YtpflojfdlmdmfaaRef
namespace Go.Proofs.Ytpflojfdlmdmfaa
open Go.RowKit

/-- A lay's block. -/
abbrev laO (l : La) : Obj := .cells #[.int .i64 l.free, .int .i64 l.late, .int .i64 l.soon] 25

set_option maxHeartbeats 1000000 in
theorem may_eq (w : World) (l : La) : Calls Try.prog 18 #[laV l] w fun e w' => e = .returned (.bool (mayB l)) ∧ w' = w.alloc (laO l) := by
  obtain ⟨f, a, s⟩ := l
  unfold mayB
  simp only
  cases h1 : (decide (0 ≤ f) && decide (f ≤ 1048576)) with
  | false =>
    go_enter Try.func18, Try.ntmps18
    go_wp2_with fail
    refine (within_any _ f 1048576).mono ?_
    rintro e w1 ⟨rfl, rfl⟩
    rw [h1]
    go_wp2_with fail
    go_ret
    exact ⟨by simp, rfl⟩
  | true =>
    cases h2 : (decide (0 ≤ a) && decide (a ≤ 1099511627776)) with
    | false =>
      go_enter Try.func18, Try.ntmps18
      go_wp2_with fail
      with_reducible refine (within_any _ f 1048576).mono ?_
      rintro e w1 ⟨rfl, rfl⟩
      rw [h1]
      go_wp2_with fail
      with_reducible refine (within_any _ a 1099511627776).mono ?_
      rintro e w1 ⟨rfl, rfl⟩
      rw [h2]
      go_wp2_with fail
      go_ret
      exact ⟨by simp, rfl⟩
    | true =>
      go_enter Try.func18, Try.ntmps18
      go_wp2_with fail
      with_reducible refine (within_any _ f 1048576).mono ?_
      rintro e w1 ⟨rfl, rfl⟩
      rw [h1]
      go_wp2_with fail
      with_reducible refine (within_any _ a 1099511627776).mono ?_
      rintro e w1 ⟨rfl, rfl⟩
      rw [h2]
      go_wp2_with fail
      with_reducible refine (within_any _ s 1099511627776).mono ?_
      rintro e w1 ⟨rfl, rfl⟩
      go_wp2_with fail
      go_ret
      exact ⟨by simp, rfl⟩

set_option maxHeartbeats 2000000 in
theorem refmay_eq (w : World) (l : La) : Calls Try.prog 19 #[laV l] w fun e w' => e = .returned (.bool (mayB l)) ∧ w' = w.alloc (laO l) := by
  obtain ⟨f, a, s⟩ := l
  have hc : (f < 0) ∨ (¬ f < 0 ∧ ¬ f ≤ 1048576) ∨ (¬ f < 0 ∧ f ≤ 1048576 ∧ a < 0) ∨ (¬ f < 0 ∧ f ≤ 1048576 ∧ ¬ a < 0 ∧ ¬ a ≤ 1099511627776) ∨ (¬ f < 0 ∧ f ≤ 1048576 ∧ ¬ a < 0 ∧ a ≤ 1099511627776 ∧ s < 0) ∨ (¬ f < 0 ∧ f ≤ 1048576 ∧ ¬ a < 0 ∧ a ≤ 1099511627776 ∧ ¬ s < 0 ∧ ¬ s ≤ 1099511627776) ∨ (¬ f < 0 ∧ f ≤ 1048576 ∧ ¬ a < 0 ∧ a ≤ 1099511627776 ∧ ¬ s < 0 ∧ s ≤ 1099511627776) := by omega
  obtain ⟨b, hb⟩ : ∃ b, b = mayB ⟨f, a, s⟩ := ⟨_, rfl⟩
  have hb' : b = true ↔ (0 ≤ f ∧ f ≤ 1048576 ∧ 0 ≤ a ∧ a ≤ 1099511627776 ∧ 0 ≤ s ∧ s ≤ 1099511627776) := by rw [hb]; unfold mayB; simp; omega
  rw [← hb]
  have hn : ¬ (0 ≤ f ∧ f ≤ 1048576 ∧ 0 ≤ a ∧ a ≤ 1099511627776 ∧ 0 ≤ s ∧ s ≤ 1099511627776) → b = false := fun h => by
    cases b with
    | false => rfl
    | true => exact absurd (hb'.1 rfl) h
  clear hb
  by_cases hall : 0 ≤ f ∧ f ≤ 1048576 ∧ 0 ≤ a ∧ a ≤ 1099511627776 ∧ 0 ≤ s ∧ s ≤ 1099511627776
  · obtain rfl : b = true := hb'.2 hall
    have c1 : ¬ f < 0 := by omega
    have c2 : f ≤ 1048576 := by omega
    have c3 : ¬ a < 0 := by omega
    have c4 : a ≤ 1099511627776 := by omega
    have c5 : ¬ s < 0 := by omega
    have c6 : s ≤ 1099511627776 := by omega
    clear hn hb' hc hall
    go_enter Try.func19, Try.ntmps19
    go_wp2_with fail
    go_ret
    exact ⟨rfl, rfl⟩
  · obtain rfl : b = false := hn hall
    clear hn hb'
    rcases hc with c1 | ⟨c1, c2⟩ | ⟨c1, c2, c3⟩ | ⟨c1, c2, c3, c4⟩ | ⟨c1, c2, c3, c4, c5⟩ | ⟨c1, c2, c3, c4, c5, c6⟩ | ⟨c1, c2, c3, c4, c5, c6⟩
    case inr.inr.inr.inr.inr.inr => exact absurd hall (by omega)
    all_goals
      clear hall
      go_enter Try.func19, Try.ntmps19
      go_wp2_with fail
      go_ret
      exact ⟨rfl, rfl⟩

end Go.Proofs.Ytpflojfdlmdmfaa
