/- The plain law of TopLay: the stretches that are built are right; money stays in its range, and more used never costs less. -/
import Derived.Test.YtpflojfdlmdmfaaPlainS
import Derived.Test.YtpflojfdlmdmfaaMoney
namespace Go.Proofs.Ytpflojfdlmdmfaa

/-- The hour behind so many stretches. -/
def hour (zs : Nat → Int) : Nat → Int
  | 0 => 0
  | k + 1 => hour zs k + 1 + zs k % 20
/-- The stretch at a place. -/
def stT (zs : Nat → Int) (k : Nat) : St := ⟨hour zs k, hour zs k + 1 + zs k % 20, zs k % 3⟩
theorem hour_bnd (zs : Nat → Int) (k : Nat) : (k : Int) ≤ hour zs k ∧ hour zs k ≤ 20 * k := by
  induction k with
  | zero => simp [hour]
  | succ k ih => simp only [hour]; omega
theorem stT_ok (zs : Nat → Int) (k : Nat) (hk : k ≤ 12) : okS (stT zs k) := by
  have h := hour_bnd zs k
  unfold okS stT
  simp only
  omega
theorem stT_path (zs : Nat → Int) (n : Nat) (hn : n ≤ 12) : Path 0 (listN (stT zs) n) (hour zs n) := by
  induction n with
  | zero => rfl
  | succ n ih => exact path_append.2 ⟨_, ih (by omega), rfl, stT_ok zs n (by omega), rfl⟩
theorem stT_right (zs : Nat → Int) (n : Nat) (hn : n ≤ 12) : ∀ j, j < (listN (stT zs) n).length → wrongE (fun j => (listN (stT zs) n).getD j ⟨0, 0, 0⟩) j = 0 :=
  path_right (stT_path zs n hn) (by rw [listN_length]; omega)
theorem stT_bnd (zs : Nat → Int) (n : Nat) (hn : n ≤ 12) : ∀ x ∈ listN (stT zs) n, i64b x.f ∧ i64b x.t ∧ i64b x.h := by
  induction n with
  | zero => intro x hx; cases hx
  | succ n ih =>
    intro x hx
    rcases List.mem_append.1 hx with hx | hx
    · exact ih (by omega) x hx
    · simp at hx; subst hx
      have h := hour_bnd zs n
      unfold i64b stT
      simp only
      omega
theorem monE_small {l : La} (h1 : 0 ≤ l.free ∧ l.free ≤ 255) (h2 : 0 ≤ l.late ∧ l.late ≤ 255) (h3 : 0 ≤ l.soon ∧ l.soon ≤ 255) {u : Int} (hu : 0 ≤ u ∧ u ≤ 4194304) : monE l u = 0 := by
  unfold monE
  rw [if_neg]
  unfold monP
  generalize hd : u - 2 * l.free = d
  split
  · have a1 := Int.mul_nonneg h2.1 (show 0 ≤ d by omega)
    have a2 : l.late * d ≤ 255 * 4194304 := Int.mul_le_mul h2.2 (by omega) (by omega) (by omega)
    rw [Int.tdiv_eq_ediv_of_nonneg (by omega)]
    omega
  · split
    · have a1 := Int.mul_nonneg h3.1 (show 0 ≤ -d by omega)
      have a2 : l.soon * -d ≤ 255 * 4194304 := Int.mul_le_mul h3.2 (by omega) (by omega) (by omega)
      rw [Int.tdiv_eq_ediv_of_nonneg (by omega)]
      omega
    · omega
theorem small_may {l : La} (h1 : 0 ≤ l.free ∧ l.free ≤ 255) (h2 : 0 ≤ l.late ∧ l.late ≤ 255) (h3 : 0 ≤ l.soon ∧ l.soon ≤ 255) : mayB l = true := by unfold mayB; simp; omega
end Go.Proofs.Ytpflojfdlmdmfaa
