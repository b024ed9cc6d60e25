/- The walk of run: the clock behind all stretches. -/
import Derived.Test.YtpflojfdlmdmfaaEach
namespace Go.Proofs.Ytpflojfdlmdmfaa
open Go.RowKit

/-- What run leaves. -/
def RunPost (F : Int) (ss : Nat → St) (n : Nat) (w : World) (e : Ending) (w' : World) : Prop := ∃ g, e = .returned (.pointer (some ⟨g, 0, none⟩)) ∧ w.heap.size ≤ g ∧ ClockAt w' g F (runN F ss n).1 (runN F ss n).2 ∧ Below w.heap.size w w'

set_option maxHeartbeats 1000000 in
theorem run_any (w : World) (l : La) (A : Option Addr) (n c : Nat) (ss : Nat → St) (h0 : 0 ≤ l.free) (h1 : l.free ≤ 1048576) (hn : n ≤ maxLen) (hS : Sts w A n ss)
    (hu : ∀ k, k < n → 0 ≤ (runN (2 * l.free) ss k).1 ∧ (runN (2 * l.free) ss k).1 ≤ 4194304) (hx : ∀ k, k < n → 0 ≤ (ss k).f ∧ (ss k).f < (ss k).t ∧ (ss k).t ≤ 1048576 ∧ 0 ≤ (ss k).h ∧ (ss k).h ≤ 2) :
    Calls Try.prog 26 #[laV l, .slice A n c] w (RunPost (2 * l.free) ss n w) := by
  have HS := Lib.hid hS
  have HU := Lib.hid hu
  have HX := Lib.hid hx
  have HN := Lib.hid hn
  clear hS hu hx hn
  go_enter Try.func26, Try.ntmps26
  go_wp2_with fail
  refine (start_any _ l h0 h1).mono ?_
  rintro e w1 ⟨g, rfl, hg, hc, hb⟩
  have hb0 : Below w.heap.size w w1 := ((Below.refl _ w).alloc (Nat.le_refl _) _).trans (hb.mono (by simp))
  have hg0 : w.heap.size ≤ g := by simp at hg; omega
  have HE := Lib.hid (each_take w1 g (2 * l.free) A n c ss w hg0 hb0 HN.out HS.out hc (by omega) HU.out HX.out)
  clear hg hc hb hb0
  go_wp2_with fail
  refine HE.out.mono ?_
  rintro e w2 ⟨rfl, hc2, hb2⟩
  have HC := Lib.hid hc2
  have HB := Lib.hid hb2
  clear hc2 hb2
  go_wp2_with fail
  go_ret
  exact ⟨g, rfl, hg0, HC.out, HB.out⟩
end Go.Proofs.Ytpflojfdlmdmfaa
