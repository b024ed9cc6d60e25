/- The walk of TermPays over any table of terms: it returns true, old memory is as it was. -/
import Derived.Test.YtlmbdpncbmfopaaDoorRef
namespace Go.Proofs.YtlmbdpncbmfopaaDoor
open Go.RowKit

/-- A contract whose result is a slice of ints, carried along a walk. -/
theorem stv {pa : Nat → Addr} {f : FuncId} {args : Array Value} {w0 w : World} {zs : List Int} (C : Calls Tryd.prog f args w fun e w' => ∃ v, e = .returned v ∧ HasInts w.heap.size w' v zs ∧ Below w.heap.size w w') (hT : Terms pa w) (hb : Below w0.heap.size w0 w) :
    Calls Tryd.prog f args w fun e w' => ∃ v, e = .returned v ∧ HasInts w.heap.size w' v zs ∧ Below w.heap.size w w' ∧ Below w0.heap.size w0 w' ∧ Terms pa w' :=
  C.mono fun _ _ ⟨v, h1, h2, h3⟩ => ⟨v, h1, h2, h3, hb.trans (h3.mono hb.size), hT.below h3 (Nat.le_refl _)⟩

set_option maxHeartbeats 1000000 in
theorem pays_out (pa : Nat → Addr) (t stage : Int) (w : World) (hT : Terms pa w) (hi : inT t = false) :
    Calls Tryd.prog 5 #[.int .i64 t, .int .i64 stage] w fun e w' => e = .returned (.bool true) ∧ Below w.heap.size w w' := by
  have hb := Below.refl w.heap.size w
  have s1 := Lib.hid (fun c => show sideS t stage c = eS by unfold sideS; rw [if_neg (by simp [hi])])
  have c1 := Lib.hid (cost_out t hi)
  have c2 := Lib.hid (risk_out t hi)
  go_enter Tryd.func5, Tryd.ntmps5
  go_wp2_with (first
    | (go_at_call 9; refine (st (awake_any pa _ hT) hT hb).mono ?_; clear hT hb; rintro e w1 ⟨rfl, hb, hT⟩)
    | (go_at_call 10; refine (is_any _ _).mono ?_; rintro e w1 ⟨rfl, rfl⟩)
    | (go_at_call 13; refine (st (passes_any pa _ _ hT) hT hb).mono ?_; clear hT hb; rintro e w1 ⟨rfl, hb, hT⟩; rw [c1.out, c2.out])
    | (go_at_call 14; refine (st (needs_out pa _ _ hT hi) hT hb).mono ?_; clear hT hb; rintro e w1 ⟨rfl, hb, hT⟩)
    | (go_at_call 11; refine (st (pays_any pa _ _ _ hT) hT hb).mono ?_; clear hT hb; rintro e w1 ⟨rfl, hb, hT⟩; rw [s1.out])
    | (go_at_call 12; refine (st (risk_any pa _ _ _ hT) hT hb).mono ?_; clear hT hb; rintro e w1 ⟨rfl, hb, hT⟩; rw [s1.out]))
  go_ret
  exact ⟨rfl, hb⟩

set_option maxHeartbeats 1000000 in
theorem pays_in (pa : Nat → Addr) (t stage : Int) (w : World) (hT : Terms pa w) (hi : inT t = true) :
    Calls Tryd.prog 5 #[.int .i64 t, .int .i64 stage] w fun e w' => e = .returned (.bool true) ∧ Below w.heap.size w w' := by
  have hb := Below.refl w.heap.size w
  have hl : (papersOf t).length ≤ 1000 := by have := papers_len t hi; omega
  have HN := Lib.hid fun w hT => needs_in pa t w hT hi
  have HR := Lib.hid fun w => refneeds_in t w hi
  have HC := Lib.hid fun w => refcost_in t w hi
  have HK := Lib.hid fun w => refrisk_in t w hi
  have q1 := bs_buyL
  have q2 := bs_selL
  cases hs : inT stage with
  | true =>
    have p1 := Lib.hid (fun c => side_in t stage c hi hs)
    generalize hct : costOf t = ct at *
    generalize hrt : riskOf t = rt at *
    generalize hpp : papersOf t = zs at *
    have ict := Lib.hid hct; have irt := Lib.hid hrt
    clear hct hrt hpp
    go_enter Tryd.func5, Tryd.ntmps5
    go_wp2_with (first
      | (go_at_call 9; refine (st (awake_any pa _ hT) hT hb).mono ?_; clear hT hb; rintro e w1 ⟨rfl, hb, hT⟩)
      | (go_at_call 10; refine (is_any _ _).mono ?_; rintro e w1 ⟨rfl, rfl⟩)
      | (go_at_call 13; refine (st (passes_any pa _ _ hT) hT hb).mono ?_; clear hT hb; rintro e w1 ⟨rfl, hb, hT⟩; rw [ict.out, irt.out])
      | (go_at_call 15; refine (st (HC.out _) hT hb).mono ?_; clear hT hb; rintro e w1 ⟨rfl, hb, hT⟩)
      | (go_at_call 16; refine (st (HK.out _) hT hb).mono ?_; clear hT hb; rintro e w1 ⟨rfl, hb, hT⟩)
      | (go_at_call 14; refine (stv (HN.out _ hT) hT hb).mono ?_; clear hT hb; rintro e w1 ⟨v1, rfl, hv1, _, hb, hT⟩)
      | (go_at_call 18; refine (stv (HR.out _) hT hb).mono ?_; clear hT hb; rintro e w1 ⟨v2, rfl, hv2, hb2, hb, hT⟩; have hv1 := hv1.below hb2 (Nat.le_refl _))
      | (go_at_call 17; refine (st (same_eq _ _ zs _ hl hv1 hv2) hT hb).mono ?_; clear hT hb hv1 hv2; rintro e w1 ⟨rfl, hb, hT⟩)
      | (go_at_call 11; refine (st (pays_any pa _ _ _ hT) hT hb).mono ?_; clear hT hb; rintro e w1 ⟨rfl, hb, hT⟩; rw [ict.out, p1.out])
      | (go_at_call 12; refine (st (risk_any pa _ _ _ hT) hT hb).mono ?_; clear hT hb; rintro e w1 ⟨rfl, hb, hT⟩; rw [irt.out, p1.out]))
    all_goals first
      | (go_ret; exact ⟨rfl, hb⟩)
      | (go_ret; exact ⟨ret_b (by simp only [Bool.and_eq_true, Bool.not_eq_true', decide_eq_false_iff_not]; omega), hb⟩)
  | false =>
    have s1 := Lib.hid (fun c => show sideS t stage c = eS by unfold sideS; rw [if_neg (by simp [hs])])
    generalize hct : costOf t = ct at *
    generalize hrt : riskOf t = rt at *
    generalize hpp : papersOf t = zs at *
    have ict := Lib.hid hct; have irt := Lib.hid hrt
    clear hct hrt hpp
    go_enter Tryd.func5, Tryd.ntmps5
    go_wp2_with (first
      | (go_at_call 9; refine (st (awake_any pa _ hT) hT hb).mono ?_; clear hT hb; rintro e w1 ⟨rfl, hb, hT⟩)
      | (go_at_call 10; refine (is_any _ _).mono ?_; rintro e w1 ⟨rfl, rfl⟩)
      | (go_at_call 13; refine (st (passes_any pa _ _ hT) hT hb).mono ?_; clear hT hb; rintro e w1 ⟨rfl, hb, hT⟩; rw [ict.out, irt.out])
      | (go_at_call 15; refine (st (HC.out _) hT hb).mono ?_; clear hT hb; rintro e w1 ⟨rfl, hb, hT⟩)
      | (go_at_call 16; refine (st (HK.out _) hT hb).mono ?_; clear hT hb; rintro e w1 ⟨rfl, hb, hT⟩)
      | (go_at_call 14; refine (stv (HN.out _ hT) hT hb).mono ?_; clear hT hb; rintro e w1 ⟨v1, rfl, hv1, _, hb, hT⟩)
      | (go_at_call 18; refine (stv (HR.out _) hT hb).mono ?_; clear hT hb; rintro e w1 ⟨v2, rfl, hv2, hb2, hb, hT⟩; have hv1 := hv1.below hb2 (Nat.le_refl _))
      | (go_at_call 17; refine (st (same_eq _ _ zs _ hl hv1 hv2) hT hb).mono ?_; clear hT hb hv1 hv2; rintro e w1 ⟨rfl, hb, hT⟩)
      | (go_at_call 11; refine (st (pays_any pa _ _ _ hT) hT hb).mono ?_; clear hT hb; rintro e w1 ⟨rfl, hb, hT⟩; rw [s1.out])
      | (go_at_call 12; refine (st (risk_any pa _ _ _ hT) hT hb).mono ?_; clear hT hb; rintro e w1 ⟨rfl, hb, hT⟩; rw [s1.out]))
    go_ret
    exact ⟨rfl, hb⟩

theorem termpays_any (pa : Nat → Addr) (t stage : Int) (w : World) (hT : Terms pa w) :
    Calls Tryd.prog 5 #[.int .i64 t, .int .i64 stage] w fun e w' => e = .returned (.bool true) ∧ Below w.heap.size w w' := by
  cases hi : inT t with
  | true => exact pays_in pa t stage w hT hi
  | false => exact pays_out pa t stage w hT hi
end Go.Proofs.YtlmbdpncbmfopaaDoor
