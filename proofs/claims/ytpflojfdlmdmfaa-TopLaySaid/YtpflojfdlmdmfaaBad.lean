/- The walk of bad: what is wrong with a lay, and stretches. -/
import Derived.Test.YtpflojfdlmdmfaaCheck
namespace Go.Proofs.Ytpflojfdlmdmfaa
open Go.RowKit

/-- What bad tells. -/
def BadPost (l : La) (ss : Nat → St) (n : Nat) (w : World) (e : Ending) (w' : World) : Prop := ∃ x, e = .returned (.int .i64 x) ∧ ((mayB l = false ∧ x = 1) ∨ (mayB l = true ∧ ∃ k, Chk ss n k x)) ∧ Below w.heap.size w w'

set_option maxHeartbeats 1000000 in
theorem bad_any (w : World) (l : La) (A : Option Addr) (n c : Nat) (ss : Nat → St) (hn : n ≤ maxLen) (h : Sts w A n ss) : Calls Try.prog 27 #[laV l, .slice A n c] w (BadPost l ss n w) := by
  have HS := Lib.hid h
  have HN := Lib.hid hn
  clear h hn
  cases hm : mayB l with
  | false =>
    go_enter Try.func27, Try.ntmps27
    go_wp2_with fail
    refine (may_any _ l).mono ?_
    rintro e w1 ⟨rfl, hb⟩
    rw [hm]
    have HB := Lib.hid (((Below.refl _ w).alloc (Nat.le_refl _) _).trans (hb.mono (by simp)))
    clear hb
    go_wp2_with fail
    go_ret
    exact ⟨1, rfl, .inl ⟨hm, rfl⟩, HB.out⟩
  | true =>
    go_enter Try.func27, Try.ntmps27
    go_wp2_with fail
    refine (may_any _ l).mono ?_
    rintro e w1 ⟨rfl, hb⟩
    rw [hm]
    have HB := Lib.hid (((Below.refl _ w).alloc (Nat.le_refl _) _).trans (hb.mono (by simp)))
    clear hb
    go_wp2_with fail
    refine (check_any w1 A n c ss HN.out (HS.out.below HB.out)).mono ?_
    rintro e w2 ⟨k, x, rfl, hc, hb⟩
    have HC := Lib.hid hc
    have HB2 := Lib.hid (HB.out.trans (hb.mono HB.out.size))
    clear hc hb
    go_wp2_with fail
    go_ret
    exact ⟨x, rfl, .inr ⟨hm, k, HC.out⟩, HB2.out⟩
end Go.Proofs.Ytpflojfdlmdmfaa
