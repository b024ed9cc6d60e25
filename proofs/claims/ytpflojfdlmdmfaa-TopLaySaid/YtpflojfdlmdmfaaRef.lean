/- The walks of the document's lay: May, Check, Long, All, Used (hour by hour). -/
import Derived.Test.YtpflojfdlmdmfaaUsed
namespace Go.Proofs.Ytpflojfdlmdmfaa
open Go.RowKit

set_option maxHeartbeats 2000000 in
theorem refmay_any (w : World) (l : La) : Calls Try.prog 19 #[laV l] w fun e w' => e = .returned (.bool (mayB l)) ∧ Below w.heap.size w w' := by
  obtain ⟨f, a, s⟩ := l
  have hc : (f < 0) ∨ (¬ f < 0 ∧ ¬ f ≤ 1048576) ∨ (¬ f < 0 ∧ f ≤ 1048576 ∧ a < 0) ∨ (¬ f < 0 ∧ f ≤ 1048576 ∧ ¬ a < 0 ∧ ¬ a ≤ 1099511627776) ∨ (¬ f < 0 ∧ f ≤ 1048576 ∧ ¬ a < 0 ∧ a ≤ 1099511627776 ∧ s < 0) ∨ (¬ f < 0 ∧ f ≤ 1048576 ∧ ¬ a < 0 ∧ a ≤ 1099511627776 ∧ ¬ s < 0 ∧ ¬ s ≤ 1099511627776) ∨ (¬ f < 0 ∧ f ≤ 1048576 ∧ ¬ a < 0 ∧ a ≤ 1099511627776 ∧ ¬ s < 0 ∧ s ≤ 1099511627776) := by omega
  obtain ⟨b, hb⟩ : ∃ b, b = mayB ⟨f, a, s⟩ := ⟨_, rfl⟩
  have hb' : b = true ↔ (0 ≤ f ∧ f ≤ 1048576 ∧ 0 ≤ a ∧ a ≤ 1099511627776 ∧ 0 ≤ s ∧ s ≤ 1099511627776) := by rw [hb]; unfold mayB; simp; omega
  rw [← hb]
  have hn : ¬ (0 ≤ f ∧ f ≤ 1048576 ∧ 0 ≤ a ∧ a ≤ 1099511627776 ∧ 0 ≤ s ∧ s ≤ 1099511627776) → b = false := fun h => by
    cases b with
    | false => rfl
    | true => exact absurd (hb'.1 rfl) h
  clear hb
  rcases hc with c1 | ⟨c1, c2⟩ | ⟨c1, c2, c3⟩ | ⟨c1, c2, c3, c4⟩ | ⟨c1, c2, c3, c4, c5⟩ | ⟨c1, c2, c3, c4, c5, c6⟩ | ⟨c1, c2, c3, c4, c5, c6⟩
  · obtain rfl : b = false := hn (by omega)
    clear hn hb'
    go_enter Try.func19, Try.ntmps19
    go_wp2_with fail
    go_ret
    exact ⟨rfl, by (repeat (first | exact Below.refl _ _ | refine below_drewN ?_ _ | refine Below.alloc ?_ (by (try simp); try omega) _))⟩
  · obtain rfl : b = false := hn (by omega)
    clear hn hb'
    go_enter Try.func19, Try.ntmps19
    go_wp2_with fail
    go_ret
    exact ⟨rfl, by (repeat (first | exact Below.refl _ _ | refine below_drewN ?_ _ | refine Below.alloc ?_ (by (try simp); try omega) _))⟩
  · obtain rfl : b = false := hn (by omega)
    clear hn hb'
    go_enter Try.func19, Try.ntmps19
    go_wp2_with fail
    go_ret
    exact ⟨rfl, by (repeat (first | exact Below.refl _ _ | refine below_drewN ?_ _ | refine Below.alloc ?_ (by (try simp); try omega) _))⟩
  · obtain rfl : b = false := hn (by omega)
    clear hn hb'
    go_enter Try.func19, Try.ntmps19
    go_wp2_with fail
    go_ret
    exact ⟨rfl, by (repeat (first | exact Below.refl _ _ | refine below_drewN ?_ _ | refine Below.alloc ?_ (by (try simp); try omega) _))⟩
  · obtain rfl : b = false := hn (by omega)
    clear hn hb'
    go_enter Try.func19, Try.ntmps19
    go_wp2_with fail
    go_ret
    exact ⟨rfl, by (repeat (first | exact Below.refl _ _ | refine below_drewN ?_ _ | refine Below.alloc ?_ (by (try simp); try omega) _))⟩
  · obtain rfl : b = false := hn (by omega)
    clear hn hb'
    go_enter Try.func19, Try.ntmps19
    go_wp2_with fail
    go_ret
    exact ⟨rfl, by (repeat (first | exact Below.refl _ _ | refine below_drewN ?_ _ | refine Below.alloc ?_ (by (try simp); try omega) _))⟩
  · obtain rfl : b = true := hb'.2 (by omega)
    clear hn hb'
    go_enter Try.func19, Try.ntmps19
    go_wp2_with fail
    go_ret
    exact ⟨rfl, by (repeat (first | exact Below.refl _ _ | refine below_drewN ?_ _ | refine Below.alloc ?_ (by (try simp); try omega) _))⟩

set_option maxHeartbeats 1000000 in
theorem all_any (w : World) : Calls Try.prog 21 #[] w fun e w' => e = .returned (.int .i64 1048577) ∧ w' = w := by
  go_enter Try.func21, Try.ntmps21
  go_wp2_with fail
  go_ret
  exact ⟨rfl, rfl⟩

/-- One hour more. -/
def hr (F u h : Int) : Int := if F ≤ u then u + 2 else u + h
/-- So many hours more. -/
def hrs (F h u : Int) : Nat → Int
  | 0 => u
  | k + 1 => hr F (hrs F h u k) h
/-- How many hours of a stretch lie ahead of one. -/
def cnt (x : St) (m : Int) : Nat := (min x.t m - x.f).toNat
/-- What the hours ahead of one use, hour by hour. -/
def useN (F m : Int) (ss : Nat → St) : Nat → Int
  | 0 => 0
  | k + 1 => hrs F (ss k).h (useN F m ss k) (cnt (ss k) m)

theorem hrs_bounds {F h u : Int} (hh : 0 ≤ h ∧ h ≤ 2) (k : Nat) : u ≤ hrs F h u k ∧ hrs F h u k ≤ u + 2 * k := by
  induction k with
  | zero => simp [hrs]
  | succ k ih =>
    show u ≤ hr F (hrs F h u k) h ∧ hr F (hrs F h u k) h ≤ _
    unfold hr
    split <;> omega
theorem cnt_le {x : St} (hx : x.f < x.t) (m : Int) : (cnt x m : Int) ≤ x.t - x.f := by unfold cnt; omega
theorem useN_bounds {F m : Int} {ss : Nat → St} {n : Nat} (h : ∀ j, j < n → wrongE ss j = 0) : ∀ k, k ≤ n → 0 ≤ useN F m ss k ∧ useN F m ss k ≤ (if k = 0 then 0 else 2 * (ss (k - 1)).t) := by
  intro k
  induction k with
  | zero => intro _; simp [useN]
  | succ k ih =>
    intro hk
    have h1 := ih (by omega)
    have h2 := right_of (h k (by omega))
    have h3 := hrs_bounds (F := F) (u := useN F m ss k) h2.1.2.2.2 (cnt (ss k) m)
    have h4 := cnt_le h2.1.2.1 m
    show 0 ≤ hrs F (ss k).h (useN F m ss k) (cnt (ss k) m) ∧ hrs F (ss k).h (useN F m ss k) (cnt (ss k) m) ≤ _
    rw [if_neg (by omega), Nat.add_sub_cancel]
    by_cases hk0 : k = 0
    · rw [if_pos hk0] at h1; omega
    · rw [if_neg hk0, h2.2.1 (by omega)] at h1; omega

set_option maxRecDepth 100000 in
set_option maxHeartbeats 2000000 in
theorem refused_any (w : World) (l : La) (A : Option Addr) (n c : Nat) (m : Int) (ss : Nat → St) (hn : n ≤ maxLen) (hS : Sts w A n ss) (hl : 0 ≤ l.free ∧ l.free ≤ 1048576) (hr : ∀ j, j < n → wrongE ss j = 0) :
    Calls Try.prog 20 #[laV l, .slice A n c, .int .i64 m] w fun e w' => e = .returned (.int .i64 (useN (2 * l.free) m ss n)) ∧ Below w.heap.size w w' := by
  obtain ⟨fr, la, so⟩ := l
  simp only at hl
  have HS := Lib.hid hS
  have HR := Lib.hid hr
  have wF : IntKind.i64.wrap (2 * fr) = 2 * fr := IntWalk.i64_in _ (by omega)
  unfold maxLen at hn
  clear hS hr
  go_enter Try.func20, Try.ntmps20
  go_wp2_with fail
  go_loopw [7, 8] (fun u i wr => ∃ k : Nat, k ≤ n ∧ i = .int .i64 k ∧ u = .int .i64 (useN (2 * fr) m ss k) ∧ Below w.heap.size w wr ∧ wr.heap[w.heap.size]? = some (.cells #[.int .i64 fr, .int .i64 la, .int .i64 so] 25 (0, 0))) (fun _ i _ => n - (intOf i).toNat)
  case atStart => exact ⟨0, by omega, rfl, rfl, (Below.refl _ _).alloc (Nat.le_refl _) _, heap_alloc_new w _⟩
  case round =>
    obtain ⟨k, hk, rfl, rfl, hb, hx⟩ := hrel
    have HB := Lib.hid hb
    have HX := Lib.hid hx
    obtain ⟨b0, b1, b2⟩ := box3 hx
    clear hb hx
    obtain ⟨wo, rfl⟩ : ∃ wo : World, wo = wr := ⟨_, rfl⟩
    by_cases hlt : k < n
    · have hlt' : (k : Int) < (n : Int) := by omega
      obtain ⟨b, o, rfl, q1, q2, q3, q4, _, _, _⟩ := HS.out k hlt
      have e2 := (HB.out.cell (p := ⟨b, o + k * 3, none⟩) q1).trans q2
      have e3 := (HB.out.cell (p := ⟨b, o + k * 3 + 1, none⟩) q1).trans q3
      have e4 := (HB.out.cell (p := ⟨b, o + k * 3 + 2, none⟩) q1).trans q4
      have hrk := right_of (HR.out k hlt)
      have hub := useN_bounds (F := 2 * fr) (m := m) HR.out k (by omega)
      have hu : 0 ≤ useN (2 * fr) m ss k ∧ useN (2 * fr) m ss k ≤ 2 * (ss k).f := by
        by_cases hk0 : k = 0
        · rw [if_pos hk0] at hub; have := hrk.1.1; omega
        · rw [if_neg hk0, hrk.2.1 (by omega)] at hub; exact hub
      have hL := Lib.hid hlt
      have hS1 : Hid (useN (2 * fr) m ss (k + 1) = hrs (2 * fr) (ss k).h (useN (2 * fr) m ss k) (cnt (ss k) m)) := rfl
      have hB := hrs_bounds (F := 2 * fr) (u := useN (2 * fr) m ss k) hrk.1.2.2.2
      have hC := cnt_le hrk.1.2.1 m
      obtain ⟨r1, r2, r3, r4, r5⟩ := hrk.1
      have hcn : (cnt (ss k) m : Int) = max 0 (min (ss k).t m - (ss k).f) := by unfold cnt; omega
      clear hrk hub q2 q3 q4 hlt
      generalize useN (2 * fr) m ss k = u0 at *
      generalize cnt (ss k) m = cn at *
      generalize (ss k).f = f at *
      generalize (ss k).t = t at *
      generalize (ss k).h = h at *
      have HBB := Lib.hid hB
      clear hB
      go_wp2_with fail
      go_loopw [7, 9] (fun u i wr => ∃ q : Nat, q ≤ cn ∧ i = .int .i64 (f + q) ∧ u = .int .i64 (hrs (2 * fr) h u0 q) ∧ Below w.heap.size w wr ∧ wr.heap[w.heap.size]? = some (.cells #[.int .i64 fr, .int .i64 la, .int .i64 so] 25 (0, 0))) (fun _ i _ => cn - (intOf i - f).toNat)
      case atStart => exact ⟨0, by omega, by simp, rfl, HB.out, HX.out⟩
      case round =>
        obtain ⟨q, hq, rfl, rfl, hb, hx⟩ := hrel
        have e2' := (hb.cell (p := ⟨b, o + k * 3, none⟩) q1).trans ((HB.out.cell (p := ⟨b, o + k * 3, none⟩) q1).symm.trans e2)
        have e3' := (hb.cell (p := ⟨b, o + k * 3 + 1, none⟩) q1).trans ((HB.out.cell (p := ⟨b, o + k * 3 + 1, none⟩) q1).symm.trans e3)
        have e4' := (hb.cell (p := ⟨b, o + k * 3 + 2, none⟩) q1).trans ((HB.out.cell (p := ⟨b, o + k * 3 + 2, none⟩) q1).symm.trans e4)
        obtain ⟨b0', b1', b2'⟩ := box3 hx
        have HB' := Lib.hid hb
        have HX' := Lib.hid hx
        clear hb hx
        have hbq := HBB.out q
        by_cases hqt : q < cn
        · have c1 : f + q < t := by omega
          have c2 : f + q < m := by omega
          have hst : Hid (hrs (2 * fr) h u0 (q + 1) = if 2 * fr ≤ hrs (2 * fr) h u0 q then hrs (2 * fr) h u0 q + 2 else hrs (2 * fr) h u0 q + h) := rfl
          have v1 : IntKind.i64.wrap (hrs (2 * fr) h u0 q + 2) = hrs (2 * fr) h u0 q + 2 := IntWalk.i64_in _ (by omega)
          have v2 : IntKind.i64.wrap (hrs (2 * fr) h u0 q + h) = hrs (2 * fr) h u0 q + h := IntWalk.i64_in _ (by omega)
          have v3 : IntKind.i64.wrap (f + q + 1) = f + q + 1 := IntWalk.i64_in _ (by omega)
          have hnx : f + ((q + 1 : Nat) : Int) = f + q + 1 := by omega
          generalize hu2 : hrs (2 * fr) h u0 (q + 1) = u2 at *
          generalize hrs (2 * fr) h u0 q = u1 at *
          by_cases hF : 2 * fr ≤ u1
          · rw [if_pos hF] at hst
            go_wp2_with fail
            exact ⟨⟨q + 1, by omega, by rw [hnx], by rw [hu2, hst.out], HB'.out, HX'.out⟩, by simp [intOf]; omega⟩
          · rw [if_neg hF] at hst
            go_wp2_with fail
            exact ⟨⟨q + 1, by omega, by rw [hnx], by rw [hu2, hst.out], HB'.out, HX'.out⟩, by simp [intOf]; omega⟩
        · have hqe : q = cn := by omega
          by_cases hft : f + q < t
          · have hfm : ¬ f + q < m := by omega
            go_wp2_with fail
            exact ⟨⟨k + 1, by omega, by go_num, by rw [hS1.out], HB'.out, HX'.out⟩, by simp [intOf]; omega⟩
          · go_wp2_with fail
            exact ⟨⟨k + 1, by omega, by go_num, by rw [hS1.out], HB'.out, HX'.out⟩, by simp [intOf]; omega⟩
    · have hge : ¬ (k : Int) < (n : Int) := by omega
      have hkn : k = n := by omega
      rw [hkn]
      clear hlt
      go_wp2_with fail
      go_ret
      exact ⟨rfl, HB.out⟩
end Go.Proofs.Ytpflojfdlmdmfaa
