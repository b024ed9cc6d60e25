/- The plain law: the closed form of a stretch is hour by hour. -/
import Derived.Test.YtpflojfdlmdmfaaRef
namespace Go.Proofs.Ytpflojfdlmdmfaa

/-- The closed form of so many hours. -/
def tk (F h u K : Int) : Int :=
  if F ≤ u then u + 2 * K
  else if F ≤ u + (if 0 < h then min K ((F - u + h - 1) / h) else K) * h then u + (if 0 < h then min K ((F - u + h - 1) / h) else K) * h + 2 * (K - (if 0 < h then min K ((F - u + h - 1) / h) else K)) else u + (if 0 < h then min K ((F - u + h - 1) / h) else K) * h
theorem tk_step {F h u : Int} (hh : 0 ≤ h ∧ h ≤ 2) (k : Nat) : hr F (tk F h u k) h = tk F h u ((k + 1 : Nat) : Int) := by
  have : h = 0 ∨ h = 1 ∨ h = 2 := by omega
  unfold tk hr
  rcases this with rfl | rfl | rfl
  · simp only [Int.lt_irrefl, if_false, Int.mul_zero, Int.add_zero]
    split <;> (try split) <;> omega
  · simp only [show (0 : Int) < 1 by omega, if_true]
    split <;> (try split) <;> (try split) <;> (try split) <;> omega
  · simp only [show (0 : Int) < 2 by omega, if_true]
    split <;> (try split) <;> (try split) <;> (try split) <;> omega
theorem hrs_tk {F h u : Int} (hh : 0 ≤ h ∧ h ≤ 2) (k : Nat) : hrs F h u k = tk F h u k := by
  induction k with
  | zero =>
    have : h = 0 ∨ h = 1 ∨ h = 2 := by omega
    unfold tk
    show u = _
    rcases this with rfl | rfl | rfl <;> simp <;> (try split) <;> (try split) <;> (try split) <;> omega
  | succ k ih => show hr F (hrs F h u k) h = _; rw [ih, tk_step hh]

theorem takeU_hrs {F u : Int} {x : St} (hx : x.f < x.t) (hh : 0 ≤ x.h ∧ x.h ≤ 2) : takeU F u x = hrs F x.h u (x.t - x.f).toNat := by
  have hk : (((x.t - x.f).toNat : Nat) : Int) = x.t - x.f := by omega
  rw [hrs_tk hh, hk]
  unfold takeU frH tk
  by_cases hF : F ≤ u
  · rw [if_pos hF, if_pos hF]
  · rw [if_neg hF, if_neg hF, if_neg hF]

/-- The clock's number is the document's, behind all. -/
theorem runN_use {F : Int} {ss : Nat → St} {n : Nat} (h : ∀ j, j < n → wrongE ss j = 0) : (runN F ss n).1 = useN F 1048577 ss n := by
  induction n with
  | zero => rfl
  | succ k ih =>
    have hr := right_of (h k (by omega))
    show takeU F (runN F ss k).1 (ss k) = hrs F (ss k).h (useN F 1048577 ss k) (cnt (ss k) 1048577)
    rw [ih (fun j hj => h j (by omega)), takeU_hrs hr.1.2.1 hr.1.2.2.2]
    have : cnt (ss k) 1048577 = ((ss k).t - (ss k).f).toNat := by unfold cnt; have := hr.1.2.2.1; omega
    rw [this]
end Go.Proofs.Ytpflojfdlmdmfaa
