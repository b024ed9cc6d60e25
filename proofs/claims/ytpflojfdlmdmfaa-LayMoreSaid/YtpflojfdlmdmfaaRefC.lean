/- The walks of the document's Check and Long. -/
import Derived.Test.YtpflojfdlmdmfaaRef
namespace Go.Proofs.Ytpflojfdlmdmfaa
open Go.RowKit

set_option maxRecDepth 100000 in
set_option maxHeartbeats 4000000 in
theorem refcheck_any (w : World) (A : Option Addr) (n c : Nat) (ss : Nat → St) (hn : n ≤ maxLen) (hS : Sts w A n ss) : Calls Try.prog 17 #[.slice A n c] w (CheckPost ss n w) := by
  have HS := Lib.hid hS
  have HN := Lib.hid hn
  unfold maxLen at hn
  clear hS
  go_enter Try.func17, Try.ntmps17
  go_wp2_with fail
  go_loopw [4] (fun i wr => ∃ k : Nat, k ≤ n ∧ i = .int .i64 k ∧ (∀ j, j < k → wrongE ss j = 0) ∧ Below w.heap.size w wr) (fun i _ => n - (intOf i).toNat)
  case atStart => exact ⟨0, by omega, rfl, fun j hj => by omega, Below.refl _ _⟩
  case round =>
    obtain ⟨k, hk, rfl, hall, hb⟩ := hrel
    have HALL := Lib.hid hall
    have HB := Lib.hid hb
    clear hall hb
    by_cases hlt : k < n
    · have hlt' : (k : Int) < (n : Int) := by omega
      have HL := Lib.hid hlt
      obtain ⟨b, o, rfl, q1, q2, q3, q4, _, _, _⟩ := HS.out k hlt
      have e2 := (HB.out.cell (p := ⟨b, o + k * 3, none⟩) q1).trans q2
      have e3 := (HB.out.cell (p := ⟨b, o + k * 3 + 1, none⟩) q1).trans q3
      have e4 := (HB.out.cell (p := ⟨b, o + k * 3 + 2, none⟩) q1).trans q4
      clear q2 q3 q4 hlt
      have hP : 0 < k → ∃ t', (ss (k - 1)).t = t' ∧ wr.cell? ⟨b, o + (k - 1) * 3 + 1, none⟩ = some (.int .i64 t') := fun hk0 => by
        obtain ⟨b', o', hA, h1, _, h4, _⟩ := HS.out (k - 1) (by have := HL.out; omega)
        injection hA with hA
        injection hA with h1 h2
        subst h1; subst h2
        exact ⟨_, rfl, (HB.out.cell (p := ⟨b, o + (k - 1) * 3 + 1, none⟩) q1).trans h4⟩
      have HP := Lib.hid hP
      have HE : Hid (wrongE ss k = if 4096 ≤ k then 7
          else if (ss k).f < 0 ∨ (ss k).t ≤ (ss k).f ∨ 1048576 < (ss k).t ∨ (ss k).h < 0 ∨ 2 < (ss k).h then 1
          else if 0 < k ∧ (ss (k - 1)).t ≠ (ss k).f then 6
          else 0) := rfl
      clear hP
      generalize (ss k).f = f at *
      generalize (ss k).t = t at *
      generalize (ss k).h = h at *
      have FIN : Hid (∀ x : Int, wrongE ss k = x → x ≠ 0 → ∀ w', Below w.heap.size w w' → CheckPost ss n w (.returned (.tuple #[.int .i64 (k : Nat), .int .i64 x])) w') := fun x hx h0 w' hb => ⟨k, x, rfl, ⟨by omega, HALL.out, .inr ⟨HL.out, hx.symm, h0⟩⟩, hb⟩
      by_cases h7 : 4096 ≤ k
      · have h7' : (4096 : Int) ≤ (k : Int) := by omega
        rw [if_pos h7] at HE
        clear h7
        go_wp2_with fail
        go_ret2
        exact FIN.out 7 HE.out (by omega) _ HB.out
      · have h7' : ¬ (4096 : Int) ≤ (k : Int) := by omega
        rw [if_neg h7] at HE
        by_cases h1 : f < 0 ∨ t ≤ f ∨ 1048576 < t ∨ h < 0 ∨ 2 < h
        · rw [if_pos h1] at HE
          have h1' : f < 0 ∨ (¬ f < 0 ∧ t ≤ f) ∨ (¬ f < 0 ∧ ¬ t ≤ f ∧ 1048576 < t) ∨ (¬ f < 0 ∧ ¬ t ≤ f ∧ ¬ 1048576 < t ∧ h < 0) ∨ (¬ f < 0 ∧ ¬ t ≤ f ∧ ¬ 1048576 < t ∧ ¬ h < 0 ∧ 2 < h) := by omega
          clear h1 h7
          rcases h1' with g1 | ⟨g1, g2⟩ | ⟨g1, g2, g3⟩ | ⟨g1, g2, g3, g4⟩ | ⟨g1, g2, g3, g4, g5⟩
          · go_wp2_with fail
            have d1 : (f < 0) = True := eq_true (by omega)
            go_quiet (fail)
            go_wp2_with fail
            go_ret2
            exact FIN.out 1 HE.out (by omega) _ (below_drewN HB.out _)
          · go_wp2_with fail
            have d1 : (f < 0) = False := eq_false (by omega)
            have d2 : (t ≤ f) = True := eq_true (by omega)
            go_quiet (fail)
            go_wp2_with fail
            go_ret2
            exact FIN.out 1 HE.out (by omega) _ (below_drewN HB.out _)
          · go_wp2_with fail
            have d1 : (f < 0) = False := eq_false (by omega)
            have d2 : (t ≤ f) = False := eq_false (by omega)
            have d3 : (1048576 < t) = True := eq_true (by omega)
            go_quiet (fail)
            go_wp2_with fail
            go_ret2
            exact FIN.out 1 HE.out (by omega) _ (below_drewN HB.out _)
          · go_wp2_with fail
            have d1 : (f < 0) = False := eq_false (by omega)
            have d2 : (t ≤ f) = False := eq_false (by omega)
            have d3 : (1048576 < t) = False := eq_false (by omega)
            have d4 : (h < 0) = True := eq_true (by omega)
            go_quiet (fail)
            go_wp2_with fail
            go_ret2
            exact FIN.out 1 HE.out (by omega) _ (below_drewN HB.out _)
          · go_wp2_with fail
            have d1 : (f < 0) = False := eq_false (by omega)
            have d2 : (t ≤ f) = False := eq_false (by omega)
            have d3 : (1048576 < t) = False := eq_false (by omega)
            have d4 : (h < 0) = False := eq_false (by omega)
            have d5 : (2 < h) = True := eq_true (by omega)
            go_quiet (fail)
            go_wp2_with fail
            go_ret2
            exact FIN.out 1 HE.out (by omega) _ (below_drewN HB.out _)
        · rw [if_neg h1] at HE
          have g1 : ¬ f < 0 := by omega
          have g2 : ¬ t ≤ f := by omega
          have g3 : ¬ 1048576 < t := by omega
          have g4 : ¬ h < 0 := by omega
          have g5 : ¬ 2 < h := by omega
          clear h1 h7
          have OK : Hid (wrongE ss k = 0 → ∀ j, j < k + 1 → wrongE ss j = 0) := fun he j hj => by
            rcases Nat.lt_or_ge j k with h1 | h1
            · exact HALL.out j h1
            · have : j = k := by omega
              subst this; exact he
          by_cases hk0 : 0 < k
          · obtain ⟨t', ht', hc⟩ := HP.out hk0
            rw [ht'] at HE
            have hk0' : (0 : Int) < (k : Int) := by omega
            have i1 : ((k : Int) - 1).toNat = k - 1 := by omega
            have i2 : (k : Int) - 1 < (n : Int) := by omega
            have i3 : 0 ≤ (k : Int) - 1 := by omega
            have i4 : IntKind.i64.wrap ((k : Int) - 1) = (k : Int) - 1 := IntWalk.i64_in _ (by omega)
            by_cases he : t' = f
            · subst he
              rw [if_neg (by simp)] at HE
              go_wp2_with fail
              have d1 : (t' < 0) = False := eq_false (by omega)
              have d2 : (t ≤ t') = False := eq_false (by omega)
              have d3 : (1048576 < t) = False := eq_false (by omega)
              have d4 : (h < 0) = False := eq_false (by omega)
              have d5 : (2 < h) = False := eq_false (by omega)
              go_quiet (fail)
              go_wp2_with fail
              go_quiet (fail)
              go_wp2_with fail
              exact ⟨⟨k + 1, by omega, by go_num, OK.out HE.out, below_drewN HB.out _⟩, by simp [intOf]; omega⟩
            · rw [if_pos ⟨hk0, he⟩] at HE
              have heb : (f == t') = false := by rw [beq_eq_false_iff_ne]; exact fun h => he h.symm
              go_wp2_with fail
              have d1 : (f < 0) = False := eq_false (by omega)
              have d2 : (t ≤ f) = False := eq_false (by omega)
              have d3 : (1048576 < t) = False := eq_false (by omega)
              have d4 : (h < 0) = False := eq_false (by omega)
              have d5 : (2 < h) = False := eq_false (by omega)
              go_quiet (fail)
              go_wp2_with fail
              go_quiet (fail)
              go_wp2_with fail
              go_ret2
              exact FIN.out 6 HE.out (by omega) _ (below_drewN (below_drewN HB.out _) _)
          · rw [if_neg (fun h => hk0 h.1)] at HE
            have hz : k = 0 := by omega
            subst hz
            simp only [Nat.zero_mul, Nat.add_zero] at e2 e3 e4
            go_wp2_with fail
            have d1 : (f < 0) = False := eq_false (by omega)
            have d2 : (t ≤ f) = False := eq_false (by omega)
            have d3 : (1048576 < t) = False := eq_false (by omega)
            have d4 : (h < 0) = False := eq_false (by omega)
            have d5 : (2 < h) = False := eq_false (by omega)
            go_quiet (fail)
            go_wp2_with fail
            go_quiet (fail)
            go_wp2_with fail
            exact ⟨⟨1, by omega, by go_num, OK.out HE.out, below_drewN HB.out _⟩, by simp [intOf]; omega⟩
    · have hge : ¬ (k : Int) < (n : Int) := by omega
      have hkn : k = n := by omega
      rw [hkn] at HALL
      clear hlt hkn
      go_wp2_with fail
      go_ret2
      exact ⟨n, 0, rfl, ⟨Nat.le_refl _, HALL.out, .inl ⟨rfl, rfl⟩⟩, HB.out⟩
/-- Do right stretches go over more hours? -/
def longB (ss : Nat → St) (n : Nat) (m : Int) : Bool := (decide (∀ j, j < n → wrongE ss j = 0)) && (decide (0 < n) && decide (m < (ss (n - 1)).t - (ss 0).f))

set_option maxRecDepth 100000 in
set_option maxHeartbeats 4000000 in
theorem long_any (w : World) (A : Option Addr) (n c : Nat) (m : Int) (ss : Nat → St) (hn : n ≤ maxLen) (hS : Sts w A n ss) : Calls Try.prog 15 #[.slice A n c, .int .i64 m] w fun e w' => e = .returned (.bool (longB ss n m)) ∧ Below w.heap.size w w' := by
  have HC := Lib.hid (refcheck_any w A n c ss hn hS)
  have HS := Lib.hid hS
  unfold maxLen at hn
  clear hS
  go_enter Try.func15, Try.ntmps15
  go_wp2_with fail
  refine HC.out.mono ?_
  rintro e w1 ⟨k, x, rfl, hc, hb⟩
  have HB := Lib.hid hb
  have HK := Lib.hid hc
  clear hc hb
  by_cases h0 : x = 0
  · subst h0
    have hall : ∀ j, j < n → wrongE ss j = 0 := by
      obtain ⟨k1, k2, k3⟩ := HK.out
      rcases k3 with ⟨h4, _⟩ | ⟨_, h5, h6⟩
      · subst h4; exact k2
      · exact absurd rfl h6
    have HL : Hid (longB ss n m = (decide (0 < n) && decide (m < (ss (n - 1)).t - (ss 0).f))) := by show _ = _; unfold longB; rw [decide_eq_true hall, Bool.true_and]
    by_cases hn0 : 0 < n
    · obtain ⟨b, o, rfl, q1, q2, q3, q4, _, _, _⟩ := HS.out 0 hn0
      obtain ⟨b', o', hA, _, _, h4, _⟩ := HS.out (n - 1) (by omega)
      injection hA with hA
      injection hA with h1 h2
      subst h1; subst h2
      have e2 := (HB.out.cell (p := ⟨b, o + 0 * 3, none⟩) q1).trans q2
      have e3 := (HB.out.cell (p := ⟨b, o + (n - 1) * 3 + 1, none⟩) q1).trans h4
      simp only [Nat.zero_mul, Nat.add_zero] at e2
      have r1 := right_of (hall 0 hn0)
      have r2 := right_of (hall (n - 1) (by omega))
      rw [decide_eq_true hn0, Bool.true_and] at HL
      clear q2 q3 q4 h4 hall
      generalize (ss (n - 1)).t = t at *
      generalize (ss 0).f = f at *
      have i0 : (0 : Int) < (n : Int) := by omega
      have i1 : ((n : Int) - 1).toNat = n - 1 := by omega
      have i2 : (n : Int) - 1 < (n : Int) := by omega
      have i3 : 0 ≤ (n : Int) - 1 := by omega
      have i4 : IntKind.i64.wrap ((n : Int) - 1) = (n : Int) - 1 := IntWalk.i64_in _ (by omega)
      have i5 : IntKind.i64.wrap (t - f) = t - f := IntWalk.i64_in _ (by omega)
      go_wp2_with fail
      go_quiet (fail)
      go_wp2_with fail
      go_ret
      exact ⟨by rw [HL.out]; rfl, below_drewN HB.out _⟩
    · obtain rfl : n = 0 := by omega
      simp only [Nat.lt_irrefl, decide_false, Bool.false_and] at HL
      go_wp2_with fail
      go_quiet (fail)
      go_wp2_with fail
      go_ret
      exact ⟨by rw [HL.out]; rfl, below_drewN HB.out _⟩
  · have HL : Hid (longB ss n m = false) := by
      show _ = _
      unfold longB
      rw [decide_eq_false, Bool.false_and]
      intro h
      obtain ⟨k1, k2, k3⟩ := HK.out
      rcases k3 with ⟨_, h5⟩ | ⟨h4, h5, h6⟩
      · exact h0 h5
      · exact h6 (h5.trans (h k h4))
    have hxb : (x == 0) = false := by rw [beq_eq_false_iff_ne]; exact h0
    go_wp2_with fail
    go_quiet (fail)
    go_wp2_with fail
    go_ret
    exact ⟨by rw [HL.out]; rfl, below_drewN HB.out _⟩
end Go.Proofs.Ytpflojfdlmdmfaa
