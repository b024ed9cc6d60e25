/- The walk of LayStays: whatever the lay, the stretches and the hour, it returns true, and old memory is as it was. -/
import Derived.Test.YtpflojfdlmdmfaaPlainS
import Derived.Test.YtpflojfdlmdmfaaRefC
import Derived.Test.YtpflojfdlmdmfaaSplit
import Derived.Test.YtpflojfdlmdmfaaMayEq
namespace Go.Proofs.Ytpflojfdlmdmfaa
open Go.RowKit

theorem used_ok' {l : La} {ss : Nat → St} {n : Nat} {w w' : World} {e : Ending} (h : UsedPost l ss n w e w') (hm : mayB l = true) (hr : ∀ j, j < n → wrongE ss j = 0) : e = .returned (.tuple #[.int .i64 (runN (2 * l.free) ss n).1, .int .i64 0]) ∧ Below w.heap.size w w' := by
  have hc : Chk ss n n 0 := ⟨Nat.le_refl _, hr, .inl ⟨rfl, rfl⟩⟩
  obtain ⟨u, x, rfl, hb, h⟩ := h
  rcases h with ⟨hm', _⟩ | ⟨_, ⟨k, hk, h0⟩, _⟩ | ⟨_, _, rfl, rfl⟩
  · rw [hm] at hm'; cases hm'
  · exact absurd (hk.unique hc).2 h0
  · exact ⟨rfl, hb⟩
theorem split_ok {l : La} {m : Int} {ss : Nat → St} {n : Nat} {w w' : World} {e : Ending} (h : SplitPost l m ss n w e w') (hm : mayB l = true) (hr : ∀ j, j < n → wrongE ss j = 0) : e = .returned (.tuple #[.int .i64 (useN (2 * l.free) m ss n), .int .i64 ((runN (2 * l.free) ss n).1 - useN (2 * l.free) m ss n), .int .i64 0]) ∧ Below w.heap.size w w' := by
  have hc : Chk ss n n 0 := ⟨Nat.le_refl _, hr, .inl ⟨rfl, rfl⟩⟩
  obtain ⟨a, b, x, rfl, hb, h⟩ := h
  rcases h with ⟨hm', _⟩ | ⟨_, ⟨k, hk, h0⟩, _⟩ | ⟨_, _, rfl, rfl, rfl⟩
  · rw [hm] at hm'; cases hm'
  · exact absurd (hk.unique hc).2 h0
  · exact ⟨rfl, hb⟩

set_option maxRecDepth 100000 in
set_option maxHeartbeats 4000000 in
theorem layStays_any (w : World) (l : La) (A : Option Addr) (n c : Nat) (m : Int) (ss : Nat → St) (hn : n ≤ maxLen) (hm : i64b m) (hS : Sts w A n ss) :
    Calls Try.prog 8 #[laV l, .slice A n c, .int .i64 m] w fun e w' => e = .returned (.bool true) ∧ Below w.heap.size w w' := by
  have HS := Lib.hid hS
  have HN := Lib.hid hn
  have HM := Lib.hid hm
  unfold maxLen at hn
  clear hS hm
  go_enter Try.func8, Try.ntmps8
  go_wp2_with fail
  refine (awake_any _).mono ?_
  rintro e w1 ⟨rfl, hb⟩
  have HB : Hid (Below w.heap.size w w1) := ((Below.refl _ w).alloc (Nat.le_refl _) (laO l)).trans (hb.mono (by simp))
  have HX : Hid (w1.heap[w.heap.size]? = some (laO l)) := (hb.block w.heap.size (by simp)).trans (heap_alloc_new w (laO l))
  clear hb
  by_cases h1 : n < 1
  · have h1' : (n : Int) < 1 := by omega
    go_wp2_with fail
    go_ret
    exact ⟨rfl, HB.out⟩
  by_cases h60 : 30 < n
  · have h60' : (30 : Int) < (n : Int) := by omega
    have h1' : ¬ (n : Int) < 1 := by omega
    go_wp2_with fail
    go_ret
    exact ⟨rfl, HB.out⟩
  · have h60' : ¬ (30 : Int) < (n : Int) := by omega
    have h1' : ¬ (n : Int) < 1 := by omega
    go_wp2_with fail
    refine (long_any w1 A n c 300 ss HN.out (HS.out.below HB.out)).mono ?_
    rintro e w2 ⟨rfl, hb⟩
    have HB2 : Hid (Below w.heap.size w w2) := HB.out.trans (hb.mono HB.out.size)
    have HX2 : Hid (w2.heap[w.heap.size]? = some (laO l)) := (hb.block w.heap.size (heap_lt HX.out)).trans HX.out
    obtain ⟨b0, b1, b2⟩ := box3 HX2.out
    clear hb
    cases hlb : longB ss n 300 with
    | true =>
      go_wp2_with fail
      go_ret
      exact ⟨rfl, HB2.out⟩
    | false =>
      go_wp2_with fail
      refine (refmay_eq _ l).mono ?_
      rintro e w3 ⟨rfl, rfl⟩
      cases hmay : mayB l with
      | false =>
        go_wp2_with fail
        go_ret
        exact ⟨rfl, HB2.out.alloc HB2.out.size _⟩
      | true =>
        have HMay := Lib.hid hmay
        clear hmay
        go_wp2_with fail
        refine (refcheck_any _ A n c ss HN.out (HS.out.below (HB2.out.alloc HB2.out.size _))).mono ?_
        rintro e w4 ⟨k, x, rfl, hk, hb⟩
        have HK := Lib.hid hk
        have HB4 : Hid (Below w.heap.size w w4) := (HB2.out.alloc HB2.out.size (laO l)).trans (hb.mono (by have := HB2.out.size; simp; omega))
        have HX4 : Hid (w4.heap[w.heap.size]? = some (laO l)) := (hb.block w.heap.size (by have := heap_lt HX2.out; simp; omega)).trans (up HX2.out)
        obtain ⟨c0, c1, c2⟩ := box3 HX4.out
        clear hb hk
        by_cases h0 : x = 0
        · subst h0
          have hr := (chk_ok (l := l) (.inr ⟨HMay.out, k, HK.out⟩)).2.2.1
          have HR := Lib.hid hr
          have hO := runN_out (F := 2 * l.free) hr n (Nat.le_refl _)
          have hl := may_free HMay.out
          have hfit := runN_fits (F := 2 * l.free) hr n (Nat.le_refl _)
          have wF : IntKind.i64.wrap (2 * l.free) = 2 * l.free := IntWalk.i64_in _ (by omega)
          have hck : Chk ss n n 0 := ⟨Nat.le_refl _, hr, .inl ⟨rfl, rfl⟩⟩
          have HO := Lib.hid hO
          clear hO hr
          go_wp2_with fail
          refine (expires_any w4 l A n c ss HN.out (HS.out.below HB4.out)).mono ?_
          rintro e w5 ⟨o, b, rfl, hb, hp⟩
          have hP := hp HMay.out hck (by omega)
          have HB5 : Hid (Below w.heap.size w w5) := HB4.out.trans (hb.mono HB4.out.size)
          have HX5 : Hid (w5.heap[w.heap.size]? = some (laO l)) := (hb.block w.heap.size (heap_lt HX4.out)).trans HX4.out
          obtain ⟨d0, d1, d2⟩ := box3 HX5.out
          clear hb hp hck c0 c1 c2
          obtain ⟨bk, of, rfl, q1, q2, q3, q4, q5, _⟩ := HS.out 0 (by omega)
          obtain ⟨bk', of', hA, _, _, h4, _, _, q6, _⟩ := HS.out (n - 1) (by omega)
          injection hA with hA
          injection hA with h1 h2
          subst h1; subst h2
          have e2 := (HB5.out.cell (p := ⟨bk, of + 0 * 3, none⟩) q1).trans q2
          have e3 := (HB5.out.cell (p := ⟨bk, of + (n - 1) * 3 + 1, none⟩) q1).trans h4
          simp only [Nat.zero_mul, Nat.add_zero] at e2
          have i0 : (0 : Int) < (n : Int) := by omega
          have i1 : ((n : Int) - 1).toNat = n - 1 := by omega
          have i2 : (n : Int) - 1 < (n : Int) := by omega
          have i3 : 0 ≤ (n : Int) - 1 := by omega
          have i4 : IntKind.i64.wrap ((n : Int) - 1) = (n : Int) - 1 := IntWalk.i64_in _ (by omega)
          have hend : endN ss n = (ss (n - 1)).t := by unfold endN; rw [if_neg (by omega)]
          have hfr := (right_of (HR.out 0 (by omega))).1
          have hlr := (right_of (HR.out (n - 1) (by omega))).1
          have HU := Lib.hid (fun W (hW : Sts W (some ⟨bk, of, none⟩) n ss) => (used_any W l (some ⟨bk, of, none⟩) n c ss HN.out hW).mono fun e w' h => used_ok' h HMay.out HR.out)
          have HSp := Lib.hid (fun W m' (hm' : i64b m') (hW : Sts W (some ⟨bk, of, none⟩) n ss) => (split_any W l m' (some ⟨bk, of, none⟩) n c ss HN.out hm' hW).mono fun e w' h => split_ok h HMay.out HR.out)
          unfold Out at HO
          rw [hend] at HO
          clear q2 q3 q4 h4 hend
          obtain ⟨f0, hf0⟩ : ∃ f0, f0 = (ss 0).f := ⟨_, rfl⟩
          obtain ⟨t0, ht0⟩ : ∃ t0, t0 = (ss (n - 1)).t := ⟨_, rfl⟩
          rw [← hf0] at HO e2 hfr q5
          rw [← ht0] at HO e3 hlr q6
          clear hf0 ht0
          generalize runN (2 * l.free) ss n = uo at *
          obtain ⟨u, o'⟩ := uo
          simp only at HO hP hfit HU HSp
          by_cases ho : o' < 0
          · rw [if_pos ho] at hP
            obtain ⟨rfl, rfl⟩ := hP
            have hlt : u < 2 * l.free := by
              rcases HO.out with ⟨_, h | h⟩ | ⟨h, _⟩ <;> omega
            clear HO
            go_wp2_with fail
            go_quiet (fail)
            go_wp2_with fail
            refine (HU.out _ (HS.out.below (below_drewN HB5.out _))).mono ?_
            rintro e w6 ⟨rfl, hb⟩
            have HB6 : Hid (Below w.heap.size w w6) := (below_drewN HB5.out _).trans (hb.mono HB5.out.size)
            have HX6 : Hid (w6.heap[w.heap.size]? = some (laO l)) := (hb.block w.heap.size (heap_lt HX5.out)).trans HX5.out
            obtain ⟨c0, c1, c2⟩ := box3 HX6.out
            clear hb
            go_wp2_with fail
            go_ret
            exact ⟨rfl, HB6.out⟩
          · rw [if_neg ho] at hP
            obtain ⟨rfl, rfl⟩ := hP
            have hx : 0 ≤ o ∧ f0 ≤ o ∧ o ≤ t0 ∧ 2 * l.free ≤ useN (2 * l.free) o ss n ∧ (∀ m, f0 ≤ m → m < o → useN (2 * l.free) m ss n < 2 * l.free) ∧ u = useN (2 * l.free) o ss n + 2 * (t0 - o) := by
              rcases HO.out with ⟨h, _⟩ | h
              · exact absurd h ho
              · exact h
            obtain ⟨x1, x2, x3, x4, x5, x6⟩ := hx
            have HX5' := Lib.hid x5
            have HX6' := Lib.hid x6
            have hob : i64b o := by unfold i64b; omega
            have S1 := Lib.hid (fun W hW => HSp.out W o hob hW)
            have S2 := Lib.hid (fun W hW => HSp.out W m HM.out hW)
            have e1 : u - useN (2 * l.free) o ss n = 2 * (t0 - o) := by omega
            rw [e1] at S1
            have w1' : IntKind.i64.wrap (t0 - o) = t0 - o := IntWalk.i64_in _ (by omega)
            have w2' : IntKind.i64.wrap (2 * (t0 - o)) = 2 * (t0 - o) := IntWalk.i64_in _ (by omega)
            have g1 : ¬ o < f0 := by omega
            have g2 : ¬ t0 < o := by omega
            clear HO x5 x6 hob e1
            generalize useN (2 * l.free) o ss n = v at *
            have g3 : ¬ v < 2 * l.free := by omega
            go_wp2_with fail
            go_quiet (fail)
            go_wp2_with fail
            refine (S1.out _ (HS.out.below (below_drewN HB5.out _))).mono ?_
            rintro e w6 ⟨rfl, hb⟩
            have HB6 : Hid (Below w.heap.size w w6) := (below_drewN HB5.out _).trans (hb.mono HB5.out.size)
            have HX6 : Hid (w6.heap[w.heap.size]? = some (laO l)) := (hb.block w.heap.size (heap_lt HX5.out)).trans HX5.out
            obtain ⟨c0, c1, c2⟩ := box3 HX6.out
            clear hb
            by_cases hm1 : m < f0
            · go_wp2_with fail
              go_ret
              exact ⟨rfl, HB6.out⟩
            · by_cases hm2 : o ≤ m
              · go_wp2_with fail
                go_ret
                exact ⟨rfl, HB6.out⟩
              · have hlt := HX5'.out m (by omega) (by omega)
                generalize useN (2 * l.free) m ss n = v2 at *
                go_wp2_with fail
                refine (S2.out _ (HS.out.below HB6.out)).mono ?_
                rintro e w7 ⟨rfl, hb⟩
                have HB7 : Hid (Below w.heap.size w w7) := HB6.out.trans (hb.mono HB6.out.size)
                have HX7 : Hid (w7.heap[w.heap.size]? = some (laO l)) := (hb.block w.heap.size (heap_lt HX6.out)).trans HX6.out
                obtain ⟨k0, k1, k2⟩ := box3 HX7.out
                clear hb
                go_wp2_with fail
                go_ret
                exact ⟨rfl, HB7.out⟩
        · have hxb : (x == 0) = false := by rw [beq_eq_false_iff_ne]; exact h0
          have H0 := Lib.hid h0
          clear h0
          go_wp2_with fail
          go_ret
          exact ⟨rfl, HB4.out⟩
end Go.Proofs.Ytpflojfdlmdmfaa
