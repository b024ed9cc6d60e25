/- The walk of TermWay, with the inputs that the law lets pass unasked: it returns true, old memory is as it was. -/
import Derived.Test.YtlmbdpncbmfopaaDoorWay
namespace Go.Proofs.YtlmbdpncbmfopaaDoor
open Go.RowKit

set_option maxRecDepth 100000 in
set_option maxHeartbeats 4000000 in
theorem way_any (pa : Nat → Addr) (t : Int) (A1 A2 : Option Addr) (n1 c1 n2 c2 : Nat) (os : Nat → ByteArray) (ds : Nat → Int) (fr to : ByteArray) (d e : Int) (w : World) (hT : Terms pa w)
    (m1 : n1 ≤ maxLen) (m2 : n2 ≤ maxLen) (m3 : fr.size ≤ maxLen) (m4 : to.size ≤ maxLen) (hO : ArgStrs w A1 n1 os)
    (hD : 0 < n2 → ∃ b2 o2, A2 = some ⟨b2, o2, none⟩ ∧ b2 < w.heap.size ∧ ∀ j, j < n2 → w.cell? ⟨b2, o2 + j, none⟩ = some (.int .i64 (ds j))) :
    Calls Tryd.prog 8 #[.int .i64 t, .slice A1 n1 c1, .slice A2 n2 c2, .string fr, .string to, .int .i64 d, .int .i64 e] w fun e w' => e = .returned (.bool true) ∧ Below w.heap.size w w' := by
  unfold maxLen at m1 m2 m3 m4
  have hb := Below.refl w.heap.size w
  by_cases h1 : inT t = true
  case neg =>
    have h1' : inT t = false := by simpa using h1
    clear h1
    go_enter Tryd.func8, Tryd.ntmps8
    go_wp2_with (first
      | (go_at_call 9; refine (st (awake_any pa _ hT) hT hb).mono ?_; clear hT hb; rintro e w1 ⟨rfl, hb, hT⟩)
      | (go_at_call 10; refine (is_any _ _).mono ?_; rintro e w1 ⟨rfl, rfl⟩))
    go_ret; exact ⟨rfl, hb⟩
  by_cases h2 : n1 ≤ 20
  case neg =>
    go_enter Tryd.func8, Tryd.ntmps8
    go_wp2_with (first
      | (go_at_call 9; refine (st (awake_any pa _ hT) hT hb).mono ?_; clear hT hb; rintro e w1 ⟨rfl, hb, hT⟩)
      | (go_at_call 10; refine (is_any _ _).mono ?_; rintro e w1 ⟨rfl, rfl⟩))
    go_ret; exact ⟨rfl, hb⟩
  by_cases h3 : n2 = n1 + 2
  case neg =>
    have HX := Lib.hid h3
    clear h3 hD
    go_enter Tryd.func8, Tryd.ntmps8
    go_wp2_with (first
      | (go_at_call 9; refine (st (awake_any pa _ hT) hT hb).mono ?_; clear hT hb; rintro e w1 ⟨rfl, hb, hT⟩)
      | (go_at_call 10; refine (is_any _ _).mono ?_; rintro e w1 ⟨rfl, rfl⟩))
    all_goals first
      | (exfalso; have hx : ((n2 : Nat) : Int) = (n1 : Int) + 2 := by assumption
         exact HX.out (by omega))
      | (go_ret; exact ⟨rfl, hb⟩)
  obtain ⟨b2, o2, rfl, hb2, hD⟩ := hD (by omega)
  subst h3
  by_cases h4 : fr = to
  case pos =>
    have h4' := str_beq h4
    clear h4 hD
    go_enter Tryd.func8, Tryd.ntmps8
    go_wp2_with (first
      | (go_at_call 9; refine (st (awake_any pa _ hT) hT hb).mono ?_; clear hT hb; rintro e w1 ⟨rfl, hb, hT⟩)
      | (go_at_call 10; refine (is_any _ _).mono ?_; rintro e w1 ⟨rfl, rfl⟩))
    go_ret; exact ⟨rfl, hb⟩
  by_cases h5 : fr.size ≤ 100 ∧ to.size ≤ 100 ∧ d ≤ e
  · exact way_in pa t A1 n1 c1 b2 o2 c2 os ds fr to d e w hT h1 h2 h4 h5.1 h5.2.1 h5.2.2 hO hb2 hD
  · have h4' := str_bne h4
    clear h4 hD
    have h5' : 100 < fr.size ∨ fr.size ≤ 100 ∧ 100 < to.size ∨ fr.size ≤ 100 ∧ to.size ≤ 100 ∧ e < d := by omega
    clear h5
    rcases h5' with h5 | ⟨h5, h6⟩ | ⟨h5, h6, h7⟩
    all_goals
      go_enter Tryd.func8, Tryd.ntmps8
      go_wp2_with (first
        | (go_at_call 9; refine (st (awake_any pa _ hT) hT hb).mono ?_; clear hT hb; rintro e w1 ⟨rfl, hb, hT⟩)
        | (go_at_call 10; refine (is_any _ _).mono ?_; rintro e w1 ⟨rfl, rfl⟩))
      go_ret; exact ⟨rfl, hb⟩
end Go.Proofs.YtlmbdpncbmfopaaDoor
