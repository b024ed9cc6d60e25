/- The walk of LayUsed: whatever the lay and the stretches, it returns true, and old memory is as it was. -/
import Derived.Test.YtpflojfdlmdmfaaPlain
import Derived.Test.YtpflojfdlmdmfaaRefC
import Derived.Test.YtpflojfdlmdmfaaExp
import Derived.Test.YtpflojfdlmdmfaaMayEq
import Derived.Deep.RegionWith
import Derived.Deep.DeepCutAuto
namespace Go.Proofs.Ytpflojfdlmdmfaa
open Go.RowKit

set_option maxRecDepth 100000 in
set_option maxHeartbeats 4000000 in
theorem layUsed_any (w : World) (l : La) (A : Option Addr) (n c : Nat) (ss : Nat → St) (hn : n ≤ maxLen) (hS : Sts w A n ss) :
    Calls Try.prog 4 #[laV l, .slice A n c] w fun e w' => e = .returned (.bool true) ∧ Below w.heap.size w w' := by
  have HS := Lib.hid hS
  have HN := Lib.hid hn
  unfold maxLen at hn
  clear hS
  go_enter Try.func4, Try.ntmps4
  go_wp2_with fail
  refine (awake_any _).mono ?_
  rintro e w1 ⟨rfl, hb⟩
  have HB : Hid (Below w.heap.size w w1) := ((Below.refl _ w).alloc (Nat.le_refl _) (laO l)).trans (hb.mono (by simp))
  have HX : Hid (w1.heap[w.heap.size]? = some (laO l)) := (hb.block w.heap.size (by simp)).trans (heap_alloc_new w (laO l))
  obtain ⟨b0, b1, b2⟩ := box3 HX.out
  clear hb
  by_cases h60 : 60 < n
  · have h60' : (60 : Int) < (n : Int) := by omega
    go_wp2_with fail
    go_ret
    exact ⟨rfl, HB.out⟩
  · have h60' : ¬ (60 : Int) < (n : Int) := by omega
    go_wp2_with fail
    refine (long_any w1 A n c 2000 ss HN.out (HS.out.below HB.out)).mono ?_
    rintro e w2 ⟨rfl, hb⟩
    have HB2 : Hid (Below w.heap.size w w2) := HB.out.trans (hb.mono HB.out.size)
    have HX2 : Hid (w2.heap[w.heap.size]? = some (laO l)) := (hb.block w.heap.size (heap_lt HX.out)).trans HX.out
    clear hb b0 b1 b2
    cases hlb : longB ss n 2000 with
    | true =>
      go_wp2_with fail
      go_ret
      exact ⟨rfl, HB2.out⟩
    | false =>
      go_wp2_with fail
      refine (check_any w2 A n c ss HN.out (HS.out.below HB2.out)).mono ?_
      rintro e w3 ⟨k, x, rfl, hk, hb⟩
      have HK := Lib.hid hk
      have HB3 : Hid (Below w.heap.size w w3) := HB2.out.trans (hb.mono HB2.out.size)
      have HX3 : Hid (w3.heap[w.heap.size]? = some (laO l)) := (hb.block w.heap.size (heap_lt HX2.out)).trans HX2.out
      clear hb hk
      go_wp2_with fail
      refine (refcheck_any w3 A n c ss HN.out (HS.out.below HB3.out)).mono ?_
      rintro e w4 ⟨k', x', rfl, hk, hb⟩
      obtain ⟨rfl, rfl⟩ := HK.out.unique hk
      have HB4 : Hid (Below w.heap.size w w4) := HB3.out.trans (hb.mono HB3.out.size)
      have HX4 : Hid (w4.heap[w.heap.size]? = some (laO l)) := (hb.block w.heap.size (heap_lt HX3.out)).trans HX3.out
      obtain ⟨b0, b1, b2⟩ := box3 HX4.out
      clear hb hk
      go_wp2_with fail
      refine (used_any w4 l A n c ss HN.out (HS.out.below HB4.out)).mono ?_
      rintro e w5 ⟨u, g, rfl, hb, hu⟩
      have HU := Lib.hid hu
      have HB5 : Hid (Below w.heap.size w w5) := HB4.out.trans (hb.mono HB4.out.size)
      have HX5 : Hid (w5.heap[w.heap.size]? = some (laO l)) := (hb.block w.heap.size (heap_lt HX4.out)).trans HX4.out
      clear b0 b1 b2
      obtain ⟨b0, b1, b2⟩ := box3 HX5.out
      have hlt5 := heap_lt HX5.out
      clear hb hu
      have hgx : Hid ((mayB l = false → u = 0 ∧ g = 1) ∧ (mayB l = true → x ≠ 0 → u = 0 ∧ g = x) ∧ (mayB l = true → x = 0 → g = 0 ∧ u = useN (2 * l.free) 1048577 ss n)) := by
        refine ⟨fun hm => ?_, fun hm h0 => ?_, fun hm h0 => ?_⟩ <;> rcases HU.out with ⟨h1, h2, h3⟩ | ⟨h1, ⟨k', h2, h3⟩, h4⟩ | ⟨h1, h2, h3, h4⟩
        · exact ⟨h2, h3⟩
        · rw [hm] at h1; cases h1
        · rw [hm] at h1; cases h1
        · rw [hm] at h1; cases h1
        · exact ⟨h4, (HK.out.unique h2).2.symm⟩
        · exact absurd (HK.out.unique h2).2 h0
        · rw [hm] at h1; cases h1
        · exact absurd ((HK.out.unique h2).2.symm.trans h0) h3
        · exact ⟨h3, h4.trans (runN_use h2.2.1)⟩
      have hkk : ((k : Int) == k) = true := by simp
      have hxx : (x == x) = true := by simp
      obtain ⟨may, hmay⟩ : ∃ b, mayB l = b := ⟨_, rfl⟩
      rw [hmay] at hgx
      have HM := Lib.hid hmay
      clear hmay
      go_upto_region 8 with fail
      go_cut [50] (fun s wx => s = .bool false ∧ Below w.heap.size w wx ∧ wx.heap[w.heap.size]? = some (laO l))
      case first =>
        go_region_with (first
          | (go_at_call 18; refine (may_eq _ l).mono ?_; rintro e w6 ⟨rfl, rfl⟩; rw [HM.out])
          | (go_at_call 19; refine (refmay_eq _ l).mono ?_; rintro e w7 ⟨rfl, rfl⟩; rw [HM.out]))
        all_goals (go_wp2_with fail; go_meet)
        all_goals exact ⟨rfl, ((HB5.out.alloc HB5.out.size _).alloc (by have := HB5.out.size; simp; omega) _).drew, up (up HX5.out)⟩
      case rest =>
        obtain ⟨rfl, hb, hx⟩ := hcut
        obtain ⟨b0, b1, b2⟩ := box3 hx
        have hlt6 := heap_lt hx
        have HB6 := Lib.hid hb
        have HX6 := Lib.hid hx
        clear hb hx
        cases may with
        | false =>
          obtain ⟨rfl, rfl⟩ := hgx.out.1 rfl
          go_wp2_with fail
          refine (refmay_eq _ l).mono ?_
          rintro e w7 ⟨rfl, rfl⟩
          rw [HM.out]
          go_wp2_with fail
          go_ret
          exact ⟨rfl, HB6.out.alloc HB6.out.size _⟩
        | true =>
          go_wp2_with fail
          refine (refmay_eq _ l).mono ?_
          rintro e w7 ⟨rfl, rfl⟩
          rw [HM.out]
          by_cases h0 : x = 0
          · subst h0
            obtain ⟨rfl, rfl⟩ := hgx.out.2.2 (by simp) (by simp)
            have hr := chk_ok (l := l) (.inr ⟨HM.out, k, HK.out⟩)
            have hl := may_free hr.1
            have hall := hr.2.2.1
            have HR := Lib.hid (fun W (hW : Sts W A n ss) => refused_any W l A n c 1048577 ss HN.out hW hl hall)
            clear hr hl hall
            go_wp2_with fail
            go_region_with (first
              | (go_at_call 21; refine (all_any _).mono ?_; rintro e w7 ⟨rfl, rfl⟩)
              | (go_at_call 20; refine (HR.out _ (HS.out.below ?hb)).mono ?_
                 case hb => (repeat (first | exact HB6.out | refine Below.drew ?_ | refine below_drewN ?_ _ | refine Below.alloc ?_ HB6.out.size _))
                 rintro e w8 ⟨rfl, hb8⟩
                 have HB8 := Lib.hid hb8
                 clear hb8))
            all_goals (go_wp2_with fail)
            all_goals
              go_ret
              exact ⟨rfl, (HB6.out.alloc HB6.out.size (laO l)).drew.trans (HB8.out.mono (by have := HB6.out.size; simp; omega))⟩
          · obtain ⟨rfl, rfl⟩ := hgx.out.2.1 (by simp) h0
            have hxb : (g == 0) = false := by rw [beq_eq_false_iff_ne]; exact h0
            have H0 := Lib.hid h0
            clear h0
            go_wp2_with fail
            go_ret
            exact ⟨rfl, HB6.out.alloc HB6.out.size _⟩
end Go.Proofs.Ytpflojfdlmdmfaa
