/- The walk of TermOnce over any table of terms: it returns true, old memory is as it was. -/
import Derived.Test.YtlmbdpncbmfopaaDoorWalks
namespace Go.Proofs.YtlmbdpncbmfopaaDoor
open Go.RowKit

set_option maxHeartbeats 1000000 in
/-- TermOnce. -/
theorem once_any (pa : Nat → Addr) (t u a b : Int) (w : World) (hT : Terms pa w) :
    Calls Tryd.prog 3 #[.int .i64 t, .int .i64 u, .int .i64 a, .int .i64 b] w fun e w' => e = .returned (.bool true) ∧ Below w.heap.size w w' := by
  have hb := Below.refl w.heap.size w
  by_cases hi : (inT t && inT u && inT a && inT b) = true ∧ a ≤ b
  · obtain ⟨hi, hab⟩ := hi
    simp only [Bool.and_eq_true] at hi
    obtain ⟨⟨⟨it, iu⟩, ia⟩, ib⟩ := hi
    have r1 := risk_le t it
    have c1 : t ≤ u → costOf t ≤ costOf u := cost_le t u it iu
    have p1 := Lib.hid (side_in t a (costOf t) it ia)
    have p2 := Lib.hid (side_in t b (costOf t) it ib)
    have p3 := Lib.hid (side_in t a (riskOf t) it ia)
    have p4 := Lib.hid (side_in t b (riskOf t) it ib)
    have p5 := Lib.hid (side_in u a (costOf u) iu ia)
    have q1 := bs_buyL
    have q2 := bs_selL
    generalize hct : costOf t = ct at *
    generalize hcu : costOf u = cu at *
    generalize hrt : riskOf t = rt at *
    have ict := Lib.hid hct; have icu := Lib.hid hcu; have irt := Lib.hid hrt
    clear hct hcu hrt
    go_enter Tryd.func3, Tryd.ntmps3
    go_wp2_with (first
      | (go_at_call 9; refine (st (awake_any pa _ hT) hT hb).mono ?_; clear hT hb; rintro e w1 ⟨rfl, hb, hT⟩)
      | (go_at_call 10; refine (is_any _ _).mono ?_; rintro e w1 ⟨rfl, rfl⟩)
      | (go_at_call 11; refine (st (pays_any pa _ _ _ hT) hT hb).mono ?_; clear hT hb; rintro e w1 ⟨rfl, hb, hT⟩; first | rw [ict.out, p1.out] | rw [ict.out, p2.out] | rw [icu.out, p5.out])
      | (go_at_call 12; refine (st (risk_any pa _ _ _ hT) hT hb).mono ?_; clear hT hb; rintro e w1 ⟨rfl, hb, hT⟩; first | rw [irt.out, p3.out] | rw [irt.out, p4.out]))
    all_goals first
      | (go_ret; exact ⟨rfl, hb⟩)
      | (go_ret; exact ⟨ret_b (by simp only [Bool.or_eq_true, Bool.not_eq_true', decide_eq_true_eq, decide_eq_false_iff_not]; omega), hb⟩)
      | (exfalso; have hx : (!decide (rt ≤ b)) = true := by assumption
         simp only [Bool.not_eq_true', decide_eq_false_iff_not] at hx; omega)
  · have hno : inT t = false ∨ inT t = true ∧ inT u = false ∨ inT t = true ∧ inT u = true ∧ inT a = false ∨ inT t = true ∧ inT u = true ∧ inT a = true ∧ inT b = false ∨ inT t = true ∧ inT u = true ∧ inT a = true ∧ inT b = true ∧ b < a := by
      cases h1 : inT t <;> cases h2 : inT u <;> cases h3 : inT a <;> cases h4 : inT b <;> simp [h1, h2, h3, h4] at hi ⊢ <;> omega
    clear hi
    rcases hno with i1 | ⟨i1, i2⟩ | ⟨i1, i2, i3⟩ | ⟨i1, i2, i3, i4⟩ | ⟨i1, i2, i3, i4, i5⟩
    all_goals
      go_enter Tryd.func3, Tryd.ntmps3
      go_wp2_with (first
        | (go_at_call 9; refine (st (awake_any pa _ hT) hT hb).mono ?_; clear hT hb; rintro e w1 ⟨rfl, hb, hT⟩)
        | (go_at_call 10; refine (is_any _ _).mono ?_; rintro e w1 ⟨rfl, rfl⟩))
      go_ret
      exact ⟨rfl, hb⟩
end Go.Proofs.YtlmbdpncbmfopaaDoor
