/- The walk of TermCounts over any table of terms: it returns true, old memory is as it was. -/
import Derived.Test.YtlmbdpncbmfopaaDoorWalks
namespace Go.Proofs.YtlmbdpncbmfopaaDoor
open Go.RowKit

set_option maxHeartbeats 1000000 in
/-- TermCounts. -/
theorem counts_any (pa : Nat → Addr) (t : Int) (w : World) (hT : Terms pa w) :
    Calls Tryd.prog 4 #[.int .i64 t] w fun e w' => e = .returned (.bool true) ∧ Below w.heap.size w w' := by
  have hb := Below.refl w.heap.size w
  obtain ⟨b0, b1, b2⟩ := cost_bd t
  have Q1 := Lib.hid fun k h0 h8 => sideS_sel t k (costOf t) h0 h8 (cost_out t)
  have Q2 := Lib.hid fun k h0 h8 => sideS_sel t k (riskOf t) h0 h8 (risk_out t)
  generalize hct : costOf t = ct at *
  generalize hrt : riskOf t = rt at *
  have ict := Lib.hid hct; have irt := Lib.hid hrt
  clear hct hrt
  go_enter Tryd.func4, Tryd.ntmps4
  go_wp2_with (first
    | (go_at_call 9; refine (st (awake_any pa _ hT) hT hb).mono ?_; clear hT hb; rintro e w1 ⟨rfl, hb, hT⟩)
    | (go_at_call 13; refine (st (passes_any pa _ _ hT) hT hb).mono ?_; clear hT hb; rintro e w1 ⟨rfl, hb, hT⟩; rw [ict.out, irt.out]))
  go_loopw [5, 6, 7] (fun p b s wr => ∃ k : Nat, k ≤ 8 ∧ s = .int .i64 k ∧ p = .int .i64 (min (k : Int) ct) ∧ b = .int .i64 (min (k : Int) rt) ∧ Below w.heap.size w wr ∧ Terms pa wr) (fun _ _ s _ => 8 - (intOf s).toNat)
  case atStart => exact ⟨0, by omega, rfl, int_eq (by omega), int_eq (by omega), hb, hT⟩
  case round =>
    clear hb hT
    obtain ⟨k, hk, rfl, rfl, rfl, hb, hT⟩ := hrel
    by_cases hlt : k < 8
    · have q1 := Q1.out k (by omega) (by omega)
      have q2 := Q2.out k (by omega) (by omega)
      go_wp2_with (first
        | (go_at_call 11; refine (st (pays_any pa _ _ _ hT) hT hb).mono ?_; clear hT hb; rintro e w1 ⟨rfl, hb, hT⟩; rw [ict.out])
        | (go_at_call 12; refine (st (risk_any pa _ _ _ hT) hT hb).mono ?_; clear hT hb; rintro e w1 ⟨rfl, hb, hT⟩; rw [irt.out]))
      all_goals exact ⟨⟨k + 1, by omega, by go_num, int_eq (by omega), int_eq (by omega), hb, hT⟩, by simp [intOf]; omega⟩
    · have e1 : (min (k : Int) ct == ct) = true := by rw [beq_iff_eq]; omega
      have e2 : (min (k : Int) rt == rt) = true := by rw [beq_iff_eq]; omega
      go_wp2
      go_ret
      exact ⟨rfl, hb⟩
end Go.Proofs.YtlmbdpncbmfopaaDoor
