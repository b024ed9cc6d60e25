/- The walk of each with a clock's take: all stretches on the clock. -/
import Derived.Test.YtpflojfdlmdmfaaTake
namespace Go.Proofs.Ytpflojfdlmdmfaa
open Go.RowKit

/-- The clock behind so many stretches. -/
def runN (F : Int) (ss : Nat → St) : Nat → Int × Int
  | 0 => (0, -1)
  | k + 1 => (takeU F (runN F ss k).1 (ss k), takeO F (runN F ss k).1 (runN F ss k).2 (ss k))

set_option maxRecDepth 100000 in
set_option maxHeartbeats 2000000 in
theorem each_take (w : World) (g : Nat) (F : Int) (A : Option Addr) (n c : Nat) (ss : Nat → St) (W : World) (hW : W.heap.size ≤ g) (hB : Below W.heap.size W w) (hn : n ≤ maxLen) (hS : Sts W A n ss) (hc : ClockAt w g F 0 (-1)) (hF : 0 ≤ F ∧ F ≤ 2097152)
    (hu : ∀ k, k < n → 0 ≤ (runN F ss k).1 ∧ (runN F ss k).1 ≤ 4194304) (hx : ∀ k, k < n → 0 ≤ (ss k).f ∧ (ss k).f < (ss k).t ∧ (ss k).t ≤ 1048576 ∧ 0 ≤ (ss k).h ∧ (ss k).h ≤ 2) :
    Calls Try.prog 28 #[.slice A n c, .func (.func 35) #[.pointer (some ⟨g, 0, none⟩)] #[]] w fun e w' => e = .returned (.tuple #[]) ∧ ClockAt w' g F (runN F ss n).1 (runN F ss n).2 ∧ Below W.heap.size W w' := by
  have HS := Lib.hid hS
  have HU := Lib.hid hu
  have HX := Lib.hid hx
  have HC0 := Lib.hid hc
  have HB0 := Lib.hid hB
  unfold maxLen at hn
  clear hS hu hx hc hB
  go_enter Try.func28, Try.ntmps28
  go_wp2_with fail
  go_loopw [8] (fun i wr => ∃ k : Nat, k ≤ n ∧ i = .int .i64 k ∧ ClockAt wr g F (runN F ss k).1 (runN F ss k).2 ∧ Below W.heap.size W wr) (fun i _ => n - (intOf i).toNat)
  case atStart => exact ⟨0, by omega, rfl, HC0.out, HB0.out⟩
  case round =>
    obtain ⟨k, hk, rfl, hc, hb⟩ := hrel
    have HC := Lib.hid hc
    have HB := Lib.hid hb
    clear hc hb HC0 HB0
    by_cases hlt : k < n
    · have hlt' : (k : Int) < (n : Int) := by omega
      obtain ⟨b, o, rfl, q1, q2, q3, q4, _, _, _⟩ := HS.out k hlt
      have e2 := (HB.out.cell (p := ⟨b, o + k * 3, none⟩) q1).trans q2
      have e3 := (HB.out.cell (p := ⟨b, o + k * 3 + 1, none⟩) q1).trans q3
      have e4 := (HB.out.cell (p := ⟨b, o + k * 3 + 2, none⟩) q1).trans q4
      have HL := Lib.hid hlt
      clear q2 q3 q4 hlt
      go_wp2_with fail
      refine (take_any _ g F (runN F ss k).1 (runN F ss k).2 (ss k) (HC.out.below ((Below.refl _ _).alloc (Nat.le_refl _) _)) hF (HU.out k HL.out) ⟨(HX.out k HL.out).1, (HX.out k HL.out).2.1, (HX.out k HL.out).2.2.1⟩ (HX.out k HL.out).2.2.2).mono ?_
      rintro e w1 ⟨rfl, hc1, hk1⟩
      have HC1 := Lib.hid hc1
      have HB1 : Hid (Below W.heap.size W w1) := HB.out.trans ⟨hk1.os, hk1.tape, hk1.output, by have := hk1.size; simp at this; omega, fun i hi => (hk1.block i (by have := HB.out.size; simp; omega) (by omega)).trans (Below.heap_alloc _ _ _ (by have := HB.out.size; omega))⟩
      clear hc1 hk1
      go_wp2_with fail
      exact ⟨⟨k + 1, by omega, by go_num, HC1.out, HB1.out⟩, by simp [intOf]; omega⟩
    · have hge : ¬ (k : Int) < (n : Int) := by omega
      have hkn : k = n := by omega
      rw [hkn] at HC
      clear hlt hkn
      go_wp2_with fail
      go_end0
      exact ⟨rfl, HC.out, HB.out⟩
end Go.Proofs.Ytpflojfdlmdmfaa
