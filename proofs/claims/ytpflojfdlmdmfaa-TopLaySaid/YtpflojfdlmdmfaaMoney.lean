/- The walk of Money, of right stretches; more used is never less money. -/
import Derived.Test.YtpflojfdlmdmfaaExp
namespace Go.Proofs.Ytpflojfdlmdmfaa
open Go.RowKit

/-- What so much used costs, or brings. -/
def monP (l : La) (u : Int) : Int := if 0 < u - 2 * l.free then (l.late * (u - 2 * l.free) + 2 - 1).tdiv 2 else if u - 2 * l.free < 0 then -((l.soon * -(u - 2 * l.free)).tdiv 2) else 0
def monV (l : La) (u : Int) : Int := if 1099511627776 < max (monP l u) (-monP l u) then 0 else monP l u
def monE (l : La) (u : Int) : Int := if 1099511627776 < max (monP l u) (-monP l u) then 3 else 0

theorem may_all {l : La} (h : mayB l = true) : (0 ≤ l.free ∧ l.free ≤ 1048576) ∧ (0 ≤ l.late ∧ l.late ≤ 1099511627776) ∧ (0 ≤ l.soon ∧ l.soon ≤ 1099511627776) := by
  unfold mayB at h
  simp at h
  omega
theorem monP_mono {l : La} (h : mayB l = true) {u v : Int} (huv : u ≤ v) : monP l u ≤ monP l v := by
  obtain ⟨h1, h2, h3⟩ := may_all h
  have up : ∀ d : Int, 0 ≤ d → 0 ≤ (l.late * d + 2 - 1).tdiv 2 := fun d hd => by
    have := Int.mul_nonneg h2.1 hd
    rw [Int.tdiv_eq_ediv_of_nonneg (by omega)]; omega
  have dn : ∀ d : Int, 0 ≤ d → 0 ≤ (l.soon * d).tdiv 2 := fun d hd => by
    have := Int.mul_nonneg h3.1 hd
    rw [Int.tdiv_eq_ediv_of_nonneg (by omega)]; omega
  unfold monP
  generalize hd : u - 2 * l.free = d
  generalize he : v - 2 * l.free = e
  have hde : d ≤ e := by omega
  by_cases hd0 : 0 < d
  · rw [if_pos hd0, if_pos (by omega)]
    have a1 := Int.mul_nonneg h2.1 (show 0 ≤ d by omega)
    have a2 := Int.mul_le_mul_of_nonneg_left hde h2.1
    rw [Int.tdiv_eq_ediv_of_nonneg (by omega), Int.tdiv_eq_ediv_of_nonneg (by omega)]
    omega
  · rw [if_neg hd0]
    by_cases he0 : 0 < e
    · rw [if_pos he0]
      have := up e (by omega)
      split
      · have := dn (-d) (by omega); omega
      · exact this
    · rw [if_neg he0]
      by_cases hd1 : d < 0
      · rw [if_pos hd1]
        by_cases he1 : e < 0
        · rw [if_pos he1]
          have a1 := Int.mul_nonneg h3.1 (show 0 ≤ -e by omega)
          have a2 := Int.mul_le_mul_of_nonneg_left (show -e ≤ -d by omega) h3.1
          rw [Int.tdiv_eq_ediv_of_nonneg (by omega), Int.tdiv_eq_ediv_of_nonneg (by omega)]
          omega
        · rw [if_neg he1]
          have := dn (-d) (by omega); omega
      · rw [if_neg hd1, if_neg (by omega)]; exact Int.le_refl _
theorem monV_mono {l : La} (h : mayB l = true) {u v : Int} (huv : u ≤ v) (hu : monE l u = 0) (hv : monE l v = 0) : monV l u ≤ monV l v := by
  have hm := monP_mono h huv
  unfold monE at hu hv
  unfold monV
  split at hu
  · omega
  · rename_i h1
    split at hv
    · omega
    · rename_i h2
      rw [if_neg h1, if_neg h2]
      exact hm

theorem used_ok2 {l : La} {ss : Nat → St} {n : Nat} {w w' : World} {e : Ending} (h : UsedPost l ss n w e w') (hm : mayB l = true) (hr : ∀ j, j < n → wrongE ss j = 0) : e = .returned (.tuple #[.int .i64 (runN (2 * l.free) ss n).1, .int .i64 0]) ∧ Below w.heap.size w w' := by
  have hc : Chk ss n n 0 := ⟨Nat.le_refl _, hr, .inl ⟨rfl, rfl⟩⟩
  obtain ⟨u, x, rfl, hb, h⟩ := h
  rcases h with ⟨hm', _⟩ | ⟨_, ⟨k, hk, h0⟩, _⟩ | ⟨_, _, rfl, rfl⟩
  · rw [hm] at hm'; cases hm'
  · exact absurd (hk.unique hc).2 h0
  · exact ⟨rfl, hb⟩

set_option maxHeartbeats 2000000 in
theorem money_ok (w : World) (l : La) (A : Option Addr) (n c : Nat) (ss : Nat → St) (hn : n ≤ maxLen) (hS : Sts w A n ss) (hm : mayB l = true) (hr : ∀ j, j < n → wrongE ss j = 0) :
    Calls Try.prog 13 #[laV l, .slice A n c] w fun e w' => e = .returned (.tuple #[.int .i64 (monV l (runN (2 * l.free) ss n).1), .int .i64 (monE l (runN (2 * l.free) ss n).1)]) ∧ Below w.heap.size w w' := by
  have HS := Lib.hid hS
  have HM := Lib.hid hm
  have HR := Lib.hid hr
  have HN := Lib.hid hn
  obtain ⟨f1, f2, f3⟩ := may_all hm
  have hfit := runN_fits (F := 2 * l.free) hr n (Nat.le_refl _)
  clear hS hm hr hn
  go_enter Try.func13, Try.ntmps13
  go_wp2_with fail
  refine ((used_any _ l A n c ss HN.out (HS.out.below ((Below.refl _ _).alloc (Nat.le_refl _) _))).mono fun e w' h => used_ok2 h HM.out HR.out).mono ?_
  rintro e w1 ⟨rfl, hb⟩
  have HB : Hid (Below w.heap.size w w1) := ((Below.refl _ w).alloc (Nat.le_refl _) (.cells #[.int .i64 l.free, .int .i64 l.late, .int .i64 l.soon] 25)).trans (hb.mono (by simp))
  obtain ⟨b0, b1, b2⟩ := box3 ((hb.block w.heap.size (by simp)).trans (heap_alloc_new w (.cells #[.int .i64 l.free, .int .i64 l.late, .int .i64 l.soon] 25)))
  clear hb
  generalize hu : (runN (2 * l.free) ss n).1 = u at *
  have HU := Lib.hid hu
  clear hu
  have wF : IntKind.i64.wrap (2 * l.free) = 2 * l.free := IntWalk.i64_in _ (by omega)
  have wd : IntKind.i64.wrap (u - 2 * l.free) = u - 2 * l.free := IntWalk.i64_in _ (by omega)
  have HP : Hid (monP l u = if 0 < u - 2 * l.free then (l.late * (u - 2 * l.free) + 2 - 1).tdiv 2 else if u - 2 * l.free < 0 then -((l.soon * -(u - 2 * l.free)).tdiv 2) else 0) := rfl
  have HV : Hid (monV l u = if 1099511627776 < max (monP l u) (-monP l u) then 0 else monP l u) := rfl
  have HE : Hid (monE l u = if 1099511627776 < max (monP l u) (-monP l u) then 3 else 0) := rfl
  have hdb : -2097152 ≤ u - 2 * l.free ∧ u - 2 * l.free ≤ 4194304 := by omega
  generalize hd : u - 2 * l.free = d at *
  by_cases hd0 : 0 < d
  · rw [if_pos hd0] at HP
    have a1 := Int.mul_nonneg f2.1 (show 0 ≤ d by omega)
    have a2 : l.late * d ≤ 1099511627776 * 4194304 := Int.mul_le_mul f2.2 hdb.2 (by omega) (by omega)
    generalize hp : l.late * d = p at *
    have w1' : IntKind.i64.wrap p = p := IntWalk.i64_in _ (by omega)
    have w2' : IntKind.i64.wrap (p + 2) = p + 2 := IntWalk.i64_in _ (by omega)
    have w3' : IntKind.i64.wrap (p + 2 - 1) = p + 2 - 1 := IntWalk.i64_in _ (by omega)
    have hq : (p + 2 - 1).tdiv 2 = (p + 2 - 1) / 2 := Int.tdiv_eq_ediv_of_nonneg (by omega)
    have hqb : 0 ≤ (p + 2 - 1) / 2 ∧ (p + 2 - 1) / 2 ≤ 2305843009213693953 := by omega
    rw [hq] at HP
    generalize (p + 2 - 1) / 2 = q at *
    have hq2 : (p + 1).tdiv 2 = q := by rw [← hq]; congr 1; omega
    have w6' : IntKind.i64.wrap (p + 1) = p + 1 := IntWalk.i64_in _ (by omega)
    have w4' : IntKind.i64.wrap q = q := IntWalk.i64_in _ (by omega)
    have w5' : IntKind.i64.wrap (-q) = -q := IntWalk.i64_in _ (by omega)
    rw [HP.out] at HV HE
    have hx : max q (-q) = q := by omega
    rw [hx] at HV HE
    by_cases hbig : 1099511627776 < q
    · rw [if_pos hbig] at HV HE
      have HBig := Lib.hid hbig
      go_wp2_with fail
      go_ret2
      exact ⟨by first | (rw [HU.out, HV.out, HE.out]; rfl) | rw [HU.out, HV.out, HE.out], HB.out⟩
    · rw [if_neg hbig] at HV HE
      go_wp2_with fail
      go_ret2
      exact ⟨by first | (rw [HU.out, HV.out, HE.out]; rfl) | rw [HU.out, HV.out, HE.out], HB.out⟩
  · rw [if_neg hd0] at HP
    by_cases hd1 : d < 0
    · rw [if_pos hd1] at HP
      have w0' : IntKind.i64.wrap (-d) = -d := IntWalk.i64_in _ (by omega)
      have a1 := Int.mul_nonneg f3.1 (show 0 ≤ -d by omega)
      have a2 : l.soon * -d ≤ 1099511627776 * 2097152 := Int.mul_le_mul f3.2 (by omega) (by omega) (by omega)
      generalize hp : l.soon * -d = p at *
      have w1' : IntKind.i64.wrap p = p := IntWalk.i64_in _ (by omega)
      have hq : p.tdiv 2 = p / 2 := Int.tdiv_eq_ediv_of_nonneg (by omega)
      have hqb : 0 ≤ p / 2 ∧ p / 2 ≤ 2305843009213693953 := by omega
      rw [hq] at HP
      generalize p / 2 = q at *
      have w4' : IntKind.i64.wrap q = q := IntWalk.i64_in _ (by omega)
      have w5' : IntKind.i64.wrap (-q) = -q := IntWalk.i64_in _ (by omega)
      rw [HP.out] at HV HE
      have hx : max (-q) (- -q) = q := by omega
      have hx2 : max (-q) q = q := by omega
      rw [hx] at HV HE
      by_cases hbig : 1099511627776 < q
      · rw [if_pos hbig] at HV HE
        go_wp2_with fail
        all_goals
          go_ret2
          exact ⟨by first | (rw [HU.out, HV.out, HE.out]; rfl) | rw [HU.out, HV.out, HE.out], HB.out⟩
      · rw [if_neg hbig] at HV HE
        go_wp2_with fail
        all_goals
          go_ret2
          exact ⟨by first | (rw [HU.out, HV.out, HE.out]; rfl) | rw [HU.out, HV.out, HE.out], HB.out⟩
    · rw [if_neg hd1] at HP
      obtain rfl : d = 0 := by omega
      rw [HP.out] at HV HE
      rw [if_neg (by omega)] at HV HE
      go_wp2_with fail
      go_ret2
      exact ⟨by first | (rw [HU.out, HV.out, HE.out]; rfl) | rw [HU.out, HV.out, HE.out], HB.out⟩
end Go.Proofs.Ytpflojfdlmdmfaa
