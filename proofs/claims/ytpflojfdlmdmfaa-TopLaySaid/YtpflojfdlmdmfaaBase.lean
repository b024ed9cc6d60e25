/- The walks of lay.May, within, wrong, Check, and of the document's May, Check, Long: each tells just what its definition says; old memory is as it was. -/
import Derived.Test.YtpflojfdlmdmfaaProg
import Derived.WalkKit
import Derived.Outline
import Derived.BigQuiet
import Derived.BigRegion
import Derived.Deep.QuietTactic
import Derived.Deep.Strs
import Derived.Lib.Hide
import Derived.WalkSmall
import Derived.Handy
import Derived.WalkSpells
import Derived.ProofKit
namespace Go.Proofs.Ytpflojfdlmdmfaa
open Go.RowKit

/-- A stretch. -/
structure St where
  f : Int
  t : Int
  h : Int
def i64b (x : Int) : Prop := -9223372036854775808 ≤ x ∧ x ≤ 9223372036854775807

/-- The stretches of a slice, cell by cell. -/
def Sts (w : World) (A : Option Addr) (n : Nat) (ss : Nat → St) : Prop :=
  ∀ j, j < n → ∃ b o, A = some ⟨b, o, none⟩ ∧ b < w.heap.size ∧ w.cell? ⟨b, o + j * 3, none⟩ = some (.int .i64 (ss j).f) ∧ w.cell? ⟨b, o + j * 3 + 1, none⟩ = some (.int .i64 (ss j).t) ∧ w.cell? ⟨b, o + j * 3 + 2, none⟩ = some (.int .i64 (ss j).h) ∧
    i64b (ss j).f ∧ i64b (ss j).t ∧ i64b (ss j).h
theorem Sts.below {w w' : World} {A : Option Addr} {n : Nat} {ss : Nat → St} (h : Sts w A n ss) (hb : Below w.heap.size w w') : Sts w' A n ss := fun j hj => by
  obtain ⟨b, o, h1, h2, h3, h4, h5, h6⟩ := h j hj
  exact ⟨b, o, h1, Nat.lt_of_lt_of_le h2 hb.size, (hb.cell (p := ⟨b, o + j * 3, none⟩) h2).trans h3, (hb.cell (p := ⟨b, o + j * 3 + 1, none⟩) h2).trans h4, (hb.cell (p := ⟨b, o + j * 3 + 2, none⟩) h2).trans h5, h6⟩

/-- A lay. -/
structure La where
  free : Int
  late : Int
  soon : Int
abbrev laV (l : La) : Value := .agg #[.int .i64 l.free, .int .i64 l.late, .int .i64 l.soon]
def mayB (l : La) : Bool := (decide (0 ≤ l.free) && decide (l.free ≤ 1048576)) && (decide (0 ≤ l.late) && decide (l.late ≤ 1099511627776)) && (decide (0 ≤ l.soon) && decide (l.soon ≤ 1099511627776))

set_option maxHeartbeats 1000000 in
theorem within_any (w : World) (n m : Int) : Calls Try.prog 31 #[.int .i64 n, .int .i64 m] w fun e w' => e = .returned (.bool (decide (0 ≤ n) && decide (n ≤ m))) ∧ w' = w := by
  by_cases h0 : 0 ≤ n
  · go_enter Try.func31, Try.ntmps31
    go_wp2_with fail
    go_ret
    exact ⟨by simp [h0], rfl⟩
  · go_enter Try.func31, Try.ntmps31
    go_wp2_with fail
    go_ret
    exact ⟨by rw [decide_eq_false (show ¬ 0 ≤ n by omega)]; rfl, rfl⟩

set_option maxHeartbeats 1000000 in
theorem may_any (w : World) (l : La) : Calls Try.prog 18 #[laV l] w fun e w' => e = .returned (.bool (mayB l)) ∧ Below w.heap.size w w' := by
  obtain ⟨f, a, s⟩ := l
  unfold mayB
  simp only
  cases h1 : (decide (0 ≤ f) && decide (f ≤ 1048576)) with
  | false =>
    go_enter Try.func18, Try.ntmps18
    go_wp2_with fail
    refine (within_any _ f 1048576).mono ?_
    rintro e w1 ⟨rfl, rfl⟩
    rw [h1]
    go_wp2_with fail
    go_ret
    exact ⟨by simp, (Below.refl _ _).alloc (Nat.le_refl _) _⟩
  | true =>
    cases h2 : (decide (0 ≤ a) && decide (a ≤ 1099511627776)) with
    | false =>
      go_enter Try.func18, Try.ntmps18
      go_wp2_with fail
      with_reducible refine (within_any _ f 1048576).mono ?_
      rintro e w1 ⟨rfl, rfl⟩
      rw [h1]
      go_wp2_with fail
      with_reducible refine (within_any _ a 1099511627776).mono ?_
      rintro e w1 ⟨rfl, rfl⟩
      rw [h2]
      go_wp2_with fail
      go_ret
      exact ⟨by simp, (Below.refl _ _).alloc (Nat.le_refl _) _⟩
    | true =>
      go_enter Try.func18, Try.ntmps18
      go_wp2_with fail
      with_reducible refine (within_any _ f 1048576).mono ?_
      rintro e w1 ⟨rfl, rfl⟩
      rw [h1]
      go_wp2_with fail
      with_reducible refine (within_any _ a 1099511627776).mono ?_
      rintro e w1 ⟨rfl, rfl⟩
      rw [h2]
      go_wp2_with fail
      with_reducible refine (within_any _ s 1099511627776).mono ?_
      rintro e w1 ⟨rfl, rfl⟩
      go_wp2_with fail
      go_ret
      exact ⟨by simp, (Below.refl _ _).alloc (Nat.le_refl _) _⟩

/-- What is wrong with a stretch, at its place. -/
def wrongE (ss : Nat → St) (k : Nat) : Int :=
  if 4096 ≤ k then 7
  else if (ss k).f < 0 ∨ (ss k).t ≤ (ss k).f ∨ 1048576 < (ss k).t ∨ (ss k).h < 0 ∨ 2 < (ss k).h then 1
  else if 0 < k ∧ (ss (k - 1)).t ≠ (ss k).f then 6
  else 0

set_option maxRecDepth 100000 in
set_option maxHeartbeats 2000000 in
theorem wrong_any (w : World) (A : Option Addr) (n c k : Nat) (ss : Nat → St) (hn : n ≤ maxLen) (hk : k < n) (h : Sts w A n ss) :
    Calls Try.prog 30 #[.slice A n c, .int .i64 k] w fun e w' => e = .returned (.int .i64 (wrongE ss k)) ∧ Below w.heap.size w w' := by
  have hn' := hn
  unfold maxLen at hn'
  obtain ⟨b, o, rfl, q1, q2, q3, q4, q5, q6, q7⟩ := h k hk
  have hk' : (k : Int) < (n : Int) := by omega
  have hP : 0 < k → ∃ t', (ss (k - 1)).t = t' ∧ w.cell? ⟨b, o + (k - 1) * 3 + 1, none⟩ = some (.int .i64 t') := fun hk0 => by
    obtain ⟨b', o', hA, _, _, h4, _⟩ := h (k - 1) (by omega)
    injection hA with hA
    injection hA with h1 h2
    subst h1; subst h2
    exact ⟨_, rfl, h4⟩
  have HP := Lib.hid hP
  clear h hP q5 q6 q7
  unfold wrongE
  generalize hf : (ss k).f = f at *
  generalize ht : (ss k).t = t at *
  generalize hh : (ss k).h = h at *
  clear hf ht hh
  by_cases h7 : 4096 ≤ k
  · rw [if_pos h7]
    have h7' : (4096 : Int) ≤ (k : Int) := by omega
    clear h7
    go_enter Try.func30, Try.ntmps30
    go_wp2_with fail
    go_ret
    exact ⟨rfl, (Below.refl _ _).alloc (Nat.le_refl _) _⟩
  · rw [if_neg h7]
    have h7' : ¬ (4096 : Int) ≤ (k : Int) := by omega
    by_cases h1 : f < 0 ∨ t ≤ f ∨ 1048576 < t ∨ h < 0 ∨ 2 < h
    · rw [if_pos h1]
      have h1' : f < 0 ∨ (¬ f < 0 ∧ t ≤ f) ∨ (¬ f < 0 ∧ ¬ t ≤ f ∧ 1048576 < t) ∨ (¬ f < 0 ∧ ¬ t ≤ f ∧ ¬ 1048576 < t ∧ h < 0) ∨ (¬ f < 0 ∧ ¬ t ≤ f ∧ ¬ 1048576 < t ∧ ¬ h < 0 ∧ 2 < h) := by omega
      clear h1 h7
      rcases h1' with g1 | ⟨g1, g2⟩ | ⟨g1, g2, g3⟩ | ⟨g1, g2, g3, g4⟩ | ⟨g1, g2, g3, g4, g5⟩
      all_goals
        go_enter Try.func30, Try.ntmps30
        go_wp2_with fail
        go_ret
        exact ⟨rfl, (Below.refl _ _).alloc (Nat.le_refl _) _⟩
    · rw [if_neg h1]
      have g1 : ¬ f < 0 := by omega
      have g2 : ¬ t ≤ f := by omega
      have g3 : ¬ 1048576 < t := by omega
      have g4 : ¬ h < 0 := by omega
      have g5 : ¬ 2 < h := by omega
      clear h1 h7
      by_cases hk0 : 0 < k
      · obtain ⟨t', ht', hc⟩ := HP.out hk0
        rw [ht']
        have hk0' : (0 : Int) < (k : Int) := by omega
        have i1 : ((k : Int) - 1).toNat = k - 1 := by omega
        have i2 : (k : Int) - 1 < (n : Int) := by omega
        have i3 : 0 ≤ (k : Int) - 1 := by omega
        have i4 : IntKind.i64.wrap ((k : Int) - 1) = (k : Int) - 1 := IntWalk.i64_in _ (by omega)
        by_cases he : t' = f
        · subst he
          rw [if_neg (by simp)]
          go_enter Try.func30, Try.ntmps30
          go_wp2_with fail
          go_quiet (fail)
          go_wp2_with fail
          go_ret
          exact ⟨rfl, by (repeat (first | exact Below.refl _ _ | refine below_drewN ?_ _ | refine Below.alloc ?_ (by (try simp); try omega) _))⟩
        · rw [if_pos ⟨hk0, he⟩]
          have heb : (t' == f) = false := by rw [beq_eq_false_iff_ne]; exact he
          go_enter Try.func30, Try.ntmps30
          go_wp2_with fail
          go_quiet (fail)
          go_wp2_with fail
          go_ret
          exact ⟨rfl, by (repeat (first | exact Below.refl _ _ | refine below_drewN ?_ _ | refine Below.alloc ?_ (by (try simp); try omega) _))⟩
      · rw [if_neg (fun h => hk0 h.1)]
        have hz : k = 0 := by omega
        subst hz
        simp only [Nat.zero_mul, Nat.add_zero] at q2 q3 q4
        go_enter Try.func30, Try.ntmps30
        go_wp2_with fail
        go_quiet (fail)
        go_wp2_with fail
        go_ret
        exact ⟨rfl, by (repeat (first | exact Below.refl _ _ | refine below_drewN ?_ _ | refine Below.alloc ?_ (by (try simp); try omega) _))⟩
end Go.Proofs.Ytpflojfdlmdmfaa
