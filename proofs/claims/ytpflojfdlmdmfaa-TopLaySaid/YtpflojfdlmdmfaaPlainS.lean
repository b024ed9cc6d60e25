/- The plain law: what the hours ahead use grows with the hour, and falls with the free hours; when a lay expires. -/
import Derived.Test.YtpflojfdlmdmfaaPlainC
namespace Go.Proofs.Ytpflojfdlmdmfaa

theorem hr_mono {F u v h : Int} (hh : 0 ≤ h ∧ h ≤ 2) (hu : u ≤ v) : hr F u h ≤ hr F v h := by unfold hr; split <;> split <;> omega
theorem hr_anti {F F' u h : Int} (hh : 0 ≤ h ∧ h ≤ 2) (hF : F ≤ F') : hr F' u h ≤ hr F u h := by unfold hr; split <;> split <;> omega
theorem hrs_mono {F u v h : Int} (hh : 0 ≤ h ∧ h ≤ 2) (hu : u ≤ v) (k : Nat) : hrs F h u k ≤ hrs F h v k := by
  induction k with
  | zero => exact hu
  | succ k ih => exact hr_mono hh ih
theorem hrs_more {F u h : Int} (hh : 0 ≤ h ∧ h ≤ 2) {j k : Nat} (hjk : j ≤ k) : hrs F h u j ≤ hrs F h u k := by
  induction k with
  | zero => have : j = 0 := by omega
            subst this; exact Int.le_refl _
  | succ k ih =>
    by_cases he : j = k + 1
    · subst he; exact Int.le_refl _
    · have h1 := ih (by omega)
      have h2 : hrs F h u k ≤ hr F (hrs F h u k) h := by unfold hr; split <;> omega
      exact Int.le_trans h1 h2
theorem hrs_anti {F F' u v h : Int} (hh : 0 ≤ h ∧ h ≤ 2) (hF : F ≤ F') (hu : u ≤ v) (k : Nat) : hrs F' h u k ≤ hrs F h v k := by
  induction k with
  | zero => exact hu
  | succ k ih => exact Int.le_trans (hr_mono hh ih) (hr_anti hh hF)

theorem useN_mono (F : Int) {m m' : Int} (hm : m ≤ m') {ss : Nat → St} {n : Nat} (h : ∀ j, j < n → wrongE ss j = 0) : useN F m ss n ≤ useN F m' ss n := by
  induction n with
  | zero => exact Int.le_refl _
  | succ n ih =>
    obtain ⟨h1, h2, h3, h4⟩ := (ok_of (h n (by omega))).1
    refine Int.le_trans (hrs_mono h4 (ih fun j hj => h j (by omega)) _) (hrs_more h4 ?_)
    unfold cnt; omega
theorem useN_anti {F F' : Int} (hF : F ≤ F') (m : Int) {ss : Nat → St} {n : Nat} (h : ∀ j, j < n → wrongE ss j = 0) : useN F' m ss n ≤ useN F m ss n := by
  induction n with
  | zero => exact Int.le_refl _
  | succ n ih =>
    obtain ⟨h1, h2, h3, h4⟩ := (ok_of (h n (by omega))).1
    exact hrs_anti h4 hF (ih fun j hj => h j (by omega)) _
theorem ends_le {ss : Nat → St} {n : Nat} (h : ∀ j, j < n → wrongE ss j = 0) : ∀ k, k ≤ n → (ss 0).f ≤ endN ss k := by
  intro k
  induction k with
  | zero => intro _; unfold endN; rw [if_pos rfl]; exact Int.le_refl _
  | succ k ih =>
    intro hk
    obtain ⟨h1, h2⟩ := ok_of (h k (by omega))
    have := ih (by omega)
    have := h1.2.1
    rw [endN_succ]; omega
/-- Behind all hours there are no others. -/
theorem useN_past (F : Int) {m m' : Int} {ss : Nat → St} {n : Nat} (h : ∀ j, j < n → wrongE ss j = 0) : ∀ k, k ≤ n → endN ss k ≤ m → endN ss k ≤ m' → useN F m ss k = useN F m' ss k := by
  intro k
  induction k with
  | zero => intro _ _ _; rfl
  | succ k ih =>
    intro hk h1 h2
    obtain ⟨⟨g1, g2, g3, g4⟩, g5⟩ := ok_of (h k (by omega))
    rw [endN_succ] at h1 h2
    show hrs F (ss k).h (useN F m ss k) (cnt (ss k) m) = hrs F (ss k).h (useN F m' ss k) (cnt (ss k) m')
    rw [ih (by omega) (by omega) (by omega)]
    congr 1
    unfold cnt; omega
theorem useN_first (F : Int) {m : Int} {ss : Nat → St} {n : Nat} (h : ∀ j, j < n → wrongE ss j = 0) (hm : m ≤ (ss 0).f) : ∀ k, k ≤ n → useN F m ss k = 0 := by
  intro k
  induction k with
  | zero => intro _; rfl
  | succ k ih =>
    intro hk
    obtain ⟨⟨g1, g2, g3, g4⟩, g5⟩ := ok_of (h k (by omega))
    have := ends_le h k (by omega)
    show hrs F (ss k).h (useN F m ss k) (cnt (ss k) m) = 0
    rw [ih (by omega)]
    have : cnt (ss k) m = 0 := by unfold cnt; omega
    rw [this]; rfl
theorem useN_all (F : Int) {ss : Nat → St} {n : Nat} (h : ∀ j, j < n → wrongE ss j = 0) {m : Int} (k : Nat) (hk : k ≤ n) (hm : endN ss k ≤ m) (h0 : 0 < k) : useN F m ss k = (runN F ss k).1 := by
  rw [runN_use (fun j hj => h j (by omega))]
  refine useN_past F h k hk hm ?_
  obtain ⟨j, rfl⟩ : ∃ j, k = j + 1 := ⟨k - 1, by omega⟩
  have := (ok_of (h j (by omega))).1.2.2.1
  rw [endN_succ]; omega

/-- Late once, late always. -/
theorem hrs_late {F u h : Int} (hu : F ≤ u) (k : Nat) : hrs F h u k = u + 2 * k := by
  induction k with
  | zero => show u = u + 2 * 0; omega
  | succ k ih => show hr F (hrs F h u k) h = _; rw [ih]; unfold hr; rw [if_pos (by omega)]; omega

/-- The hour at which a lay expires, if it does. -/
def Out (F : Int) (ss : Nat → St) (k : Nat) (u o : Int) : Prop :=
  (o < 0 ∧ (u < F ∨ k = 0)) ∨ (0 ≤ o ∧ (ss 0).f ≤ o ∧ o ≤ endN ss k ∧ F ≤ useN F o ss k ∧ (∀ m, (ss 0).f ≤ m → m < o → useN F m ss k < F) ∧ u = useN F o ss k + 2 * (endN ss k - o))

theorem runN_out {F : Int} {ss : Nat → St} {n : Nat} (h : ∀ j, j < n → wrongE ss j = 0) : ∀ k, k ≤ n → Out F ss k (runN F ss k).1 (runN F ss k).2 := by
  intro k
  induction k with
  | zero => intro _; exact .inl ⟨by show (-1 : Int) < 0; omega, .inr rfl⟩
  | succ k ih =>
    intro hk
    obtain ⟨⟨g1, g2, g3, g4⟩, g5⟩ := ok_of (h k (by omega))
    have hen := endN_succ ss k
    have hle := ends_le h k (by omega)
    have hkr := fun j (hj : j < k) => h j (by omega)
    have hst : ∀ m, useN F m ss (k + 1) = hrs F (ss k).h (useN F m ss k) (cnt (ss k) m) := fun m => rfl
    have hlow : ∀ m, m ≤ (ss k).f → useN F m ss (k + 1) = useN F m ss k := fun m hm => by
      rw [hst]
      have : cnt (ss k) m = 0 := by unfold cnt; omega
      rw [this]; rfl
    have hhigh : ∀ m, (ss k).f ≤ m → useN F m ss k = (runN F ss k).1 := fun m hm => by
      by_cases hk0 : k = 0
      · subst hk0; rfl
      · exact useN_all F h k (by omega) (by omega) (by omega)
    show Out F ss (k + 1) (takeU F (runN F ss k).1 (ss k)) (takeO F (runN F ss k).1 (runN F ss k).2 (ss k))
    have IH := ih (by omega)
    generalize hu : (runN F ss k).1 = u at *
    generalize (runN F ss k).2 = o at *
    by_cases hlate : F ≤ u
    · have eU : takeU F u (ss k) = u + 2 * ((ss k).t - (ss k).f) := by unfold takeU; rw [if_pos hlate]
      have eO : takeO F u o (ss k) = if o < 0 then (ss k).f else o := by unfold takeO; rw [if_pos hlate]
      rw [eU, eO]
      rcases IH with ⟨h1, h2⟩ | ⟨h1, h2, h3, h4, h5, h6⟩
      · have hk0 : k = 0 := by omega
        subst hk0
        have hu0 : u = 0 := hu.symm
        rw [if_pos h1]
        refine .inr ⟨g1, Int.le_refl _, by rw [hen]; omega, ?_, fun m m1 m2 => by omega, ?_⟩
        · rw [hlow _ (Int.le_refl _), hhigh _ (Int.le_refl _)]; exact hlate
        · rw [hlow _ (Int.le_refl _), hhigh _ (Int.le_refl _), hen]
      · rw [if_neg (by omega)]
        have hof : o ≤ (ss k).f := by omega
        refine .inr ⟨h1, h2, by rw [hen]; omega, by rw [hlow o hof]; exact h4, fun m m1 m2 => by rw [hlow m (by omega)]; exact h5 m m1 m2, ?_⟩
        rw [hlow o hof, hen]
        omega
    · have ho : o < 0 := by
        rcases IH with ⟨h1, _⟩ | ⟨h1, h2, h3, h4, h5, h6⟩
        · exact h1
        · omega
      have eO : takeO F u o (ss k) = outO F (u + frH F u (ss k) * (ss k).h) o ((ss k).f + frH F u (ss k)) := by unfold takeO; rw [if_neg hlate]
      have hfb := frH_bounds (F := F) (u := u) g2 g4
      have hTU := takeU_hrs (F := F) (u := u) g2 g4
      have hfr : frH F u (ss k) = if 0 < (ss k).h then min ((ss k).t - (ss k).f) ((F - u + (ss k).h - 1) / (ss k).h) else (ss k).t - (ss k).f := by unfold frH; rw [if_neg hlate]
      have hcalc : ∀ j : Nat, (j : Int) ≤ frH F u (ss k) → hrs F (ss k).h u j = u + j * (ss k).h ∧ ((j : Int) < frH F u (ss k) → u + j * (ss k).h < F) := by
        intro j hj
        rw [hrs_tk g4]
        unfold tk
        rw [if_neg hlate]
        have h012 : (ss k).h = 0 ∨ (ss k).h = 1 ∨ (ss k).h = 2 := by omega
        rw [hfr] at hj ⊢
        rcases h012 with e | e | e <;> rw [e] at hj ⊢
        · simp only [Int.lt_irrefl, if_false, Int.mul_zero, Int.add_zero] at hj ⊢
          rw [if_neg hlate]
          exact ⟨rfl, fun _ => by omega⟩
        · simp only [show (0 : Int) < 1 by omega, if_true] at hj ⊢
          constructor
          · split <;> omega
          · intro _; omega
        · simp only [show (0 : Int) < 2 by omega, if_true] at hj ⊢
          constructor
          · split <;> omega
          · intro _; omega
      generalize hr : frH F u (ss k) = r at *
      have hrn : ((r.toNat : Nat) : Int) = r := by omega
      obtain ⟨c1, _⟩ := hcalc r.toNat (by omega)
      rw [hrn] at c1
      have hat : useN F ((ss k).f + r) ss (k + 1) = u + r * (ss k).h := by
        rw [hst, hhigh _ (by omega)]
        have : cnt (ss k) ((ss k).f + r) = r.toNat := by unfold cnt; omega
        rw [this, c1]
      rw [eO]
      by_cases hex : u + r * (ss k).h < F
      · have eU : takeU F u (ss k) = u + r * (ss k).h := by unfold takeU; rw [if_neg hlate, hr, if_neg (by omega)]
        have : outO F (u + r * (ss k).h) o ((ss k).f + r) = o := by unfold outO; rw [if_pos hex]
        rw [this, eU]
        exact .inl ⟨ho, .inl hex⟩
      · have eU : takeU F u (ss k) = u + r * (ss k).h + 2 * ((ss k).t - (ss k).f - r) := by unfold takeU; rw [if_neg hlate, hr, if_pos (by omega)]
        have : outO F (u + r * (ss k).h) o ((ss k).f + r) = (ss k).f + r := by unfold outO; rw [if_neg hex, if_pos ho]
        rw [this, eU]
        refine .inr ⟨by omega, by omega, by rw [hen]; omega, by rw [hat]; omega, fun m m1 m2 => ?_, by rw [hat, hen]; omega⟩
        by_cases hmf : m ≤ (ss k).f
        · rw [hlow m hmf]
          have := useN_mono F hmf hkr
          rw [hhigh _ (Int.le_refl _)] at this
          omega
        · rw [hst, hhigh m (by omega)]
          have hc : ((cnt (ss k) m : Nat) : Int) = m - (ss k).f := by unfold cnt; omega
          obtain ⟨d1, d2⟩ := hcalc (cnt (ss k) m) (by omega)
          rw [d1]
          exact d2 (by omega)
end Go.Proofs.Ytpflojfdlmdmfaa
