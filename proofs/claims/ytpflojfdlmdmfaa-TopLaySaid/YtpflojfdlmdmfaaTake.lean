/- The walk of take: a stretch more on the clock. -/
import Derived.Test.YtpflojfdlmdmfaaClock
namespace Go.Proofs.Ytpflojfdlmdmfaa
open Go.RowKit

abbrev stV (x : St) : Value := .agg #[.int .i64 x.f, .int .i64 x.t, .int .i64 x.h]

theorem box3 {w : World} {b : Nat} {x0 x1 x2 : Value} {t : TypeId} (h : w.heap[b]? = some (.cells #[x0, x1, x2] t (0, 0))) :
    w.cell? ⟨b, 0, none⟩ = some x0 ∧ w.cell? ⟨b, 1, none⟩ = some x1 ∧ w.cell? ⟨b, 2, none⟩ = some x2 := by
  refine ⟨?_, ?_, ?_⟩ <;> (rw [cell_of_row w b _ _ _ _ h]; rfl)
theorem at_top {w : World} {o : Obj} {g : Nat} (h : g = w.heap.size) : (w.alloc o).heap[g]? = some o := by
  subst h; exact heap_alloc_new w o

set_option maxRecDepth 100000 in
set_option maxHeartbeats 2000000 in
theorem take_late (w : World) (g : Nat) (F u o : Int) (x : St) (h : ClockAt w g F u o) (hu : F ≤ u) (hub : 0 ≤ u ∧ u ≤ 4194304) (hx : 0 ≤ x.f ∧ x.f < x.t ∧ x.t ≤ 1048576) :
    Calls Try.prog 35 #[.pointer (some ⟨g, 0, none⟩), stV x] w fun e w' => e = .returned (.tuple #[]) ∧ ClockAt w' g F (u + 2 * (x.t - x.f)) (if o < 0 then x.f else o) ∧ Kept (fun k => k = g) w w' := by
  have hglt := heap_lt h
  have HC := Lib.hid h
  clear h
  obtain ⟨f, t, hh⟩ := x
  simp only at hx
  obtain ⟨x1, x2, x3⟩ := hx
  have w1 : IntKind.i64.wrap (t - f) = t - f := IntWalk.i64_in _ (by omega)
  have w2 : IntKind.i64.wrap (2 * (t - f)) = 2 * (t - f) := IntWalk.i64_in _ (by omega)
  have w3 : IntKind.i64.wrap (u + 2 * (t - f)) = u + 2 * (t - f) := IntWalk.i64_in _ (by omega)
  have w4 : IntKind.i64.wrap f = f := IntWalk.i64_in _ (by omega)
  have d : (!decide (u < F)) = true := by simp; omega
  have o1 : outO F u o f = if o < 0 then f else o := by unfold outO; rw [if_neg (by omega)]
  have o2 : outO F u (if o < 0 then f else o) f = if o < 0 then f else o := by
    unfold outO
    rw [if_neg (by omega)]
    by_cases ho : o < 0
    · rw [if_pos ho, if_neg (by omega)]
    · rw [if_neg ho, if_neg ho]
  generalize (if o < 0 then f else o) = o' at *
  go_enter Try.func35, Try.ntmps35
  go_wp2_with fail
  with_reducible refine (over_any _ g F u o f (HC.out.below ((Below.refl _ _).alloc (Nat.le_refl _) _))).mono ?_
  rintro e v1 ⟨rfl, hc1, hk1⟩
  rw [d]
  rw [o1] at hc1
  have HX1 : Hid (v1.heap[w.heap.size]? = some (.cells #[.int .i64 f, .int .i64 t, .int .i64 hh] 28 (0, 0))) := (hk1.block w.heap.size (by simp) (by omega)).trans (at_top rfl)
  obtain ⟨b0, b1, b2⟩ := box3 HX1.out
  have HC1 := Lib.hid hc1
  have HK1 := Lib.hid hk1
  clear hc1 hk1
  go_wp2_with fail
  with_reducible refine (over_any _ g F u o' f HC1.out).mono ?_
  rintro e v2 ⟨rfl, hc2, hk2⟩
  rw [d]
  rw [o2] at hc2
  obtain ⟨c0, c1, c2, c3⟩ := hc2.cells
  have HC2 := Lib.hid hc2
  have HK2 := Lib.hid hk2
  clear hc2 hk2
  go_wp2_with fail
  go_end0
  refine ⟨rfl, HC2.out.setUsed _, ?_⟩
  have hk : Kept (fun k => k = g) w v2 := (((Kept.refl _ w).alloc _).trans HK1.out).trans HK2.out
  exact hk.setCell (.inl rfl) _

set_option maxRecDepth 100000 in
set_option maxHeartbeats 2000000 in
theorem take_free0 (w : World) (g : Nat) (F u o f t : Int) (h : ClockAt w g F u o) (hu : u < F) (hub : 0 ≤ u ∧ u ≤ 4194304) (hx : 0 ≤ f ∧ f < t ∧ t ≤ 1048576) :
    Calls Try.prog 35 #[.pointer (some ⟨g, 0, none⟩), .agg #[.int .i64 f, .int .i64 t, .int .i64 0]] w fun e w' => e = .returned (.tuple #[]) ∧ ClockAt w' g F u o ∧ Kept (fun k => k = g) w w' := by
  have hglt := heap_lt h
  have HC := Lib.hid h
  clear h
  obtain ⟨x1, x2, x3⟩ := hx
  have w1 : IntKind.i64.wrap (t - f) = t - f := IntWalk.i64_in _ (by omega)
  have w3 : IntKind.i64.wrap ((t - f) * 0) = 0 := by rw [Int.mul_zero]; exact IntWalk.i64_in _ (by omega)
  have w5 : IntKind.i64.wrap (u + 0) = u := by rw [Int.add_zero]; exact IntWalk.i64_in _ (by omega)
  have w6 : IntKind.i64.wrap (f + (t - f)) = t := by rw [IntWalk.i64_in _ (by omega)]; omega
  have d : (!decide (u < F)) = false := by simp; omega
  have o1 : ∀ y, outO F u o y = o := fun y => by unfold outO; rw [if_pos hu]
  go_enter Try.func35, Try.ntmps35
  go_wp2_with fail
  with_reducible refine (over_any _ g F u o f (HC.out.below ((Below.refl _ _).alloc (Nat.le_refl _) _))).mono ?_
  rintro e v1 ⟨rfl, hc1, hk1⟩
  rw [d]
  rw [o1] at hc1
  have HX1 : Hid (v1.heap[w.heap.size]? = some (.cells #[.int .i64 f, .int .i64 t, .int .i64 0] 28 (0, 0))) := (hk1.block w.heap.size (by simp) (by omega)).trans (at_top rfl)
  obtain ⟨b0, b1, b2⟩ := box3 HX1.out
  obtain ⟨c0, c1, c2, c3⟩ := hc1.cells
  have HC1 := Lib.hid hc1
  have HK1 := Lib.hid hk1
  clear hc1 hk1
  go_wp2_with fail
  go_region
  go_wp2_with fail
  have HCd : ClockAt (v1.setCell ⟨g, 1, none⟩ (.int .i64 u)).drew g F u o := HC1.out.setUsed u
  have hb2 : ∀ j, ((v1.setCell ⟨g, 1, none⟩ (.int .i64 u)).drew).cell? ⟨w.heap.size, j, none⟩ = v1.cell? ⟨w.heap.size, j, none⟩ := fun j => World.cell?_of_block (w := v1) (Below.heap_setCell v1 ⟨g, 1, none⟩ _ w.heap.size (by simp; omega))
  with_reducible refine (over_any (v1.setCell ⟨g, 1, none⟩ (.int .i64 u)).drew g F u o t HCd).mono ?_
  rintro e v2 ⟨rfl, hc2, hk2⟩
  rw [d]
  rw [o1] at hc2
  have HC2 := Lib.hid hc2
  have HK2 := Lib.hid hk2
  clear hc2 hk2
  go_wp2_with fail
  go_end0
  exact ⟨rfl, HC2.out, ((((Kept.refl _ w).alloc _).trans HK1.out).setCell (p := ⟨g, 1, none⟩) (.inl rfl) _).drew.trans HK2.out⟩

set_option maxRecDepth 100000 in
set_option maxHeartbeats 2000000 in
theorem take_freeH (w : World) (g : Nat) (F u o f t h q : Int) (hc : ClockAt w g F u o) (hu : u < F) (hF : F ≤ 2097152) (hub : 0 ≤ u ∧ u ≤ 4194304) (hx : 0 ≤ f ∧ f < t ∧ t ≤ 1048576) (hh : 0 < h ∧ h ≤ 2) (hq : Int.tdiv (F - u + h - 1) h = q) (hq0 : 0 ≤ q ∧ q ≤ 2097152) (hlt : q < t - f) (hge : F ≤ u + q * h) :
    Calls Try.prog 35 #[.pointer (some ⟨g, 0, none⟩), .agg #[.int .i64 f, .int .i64 t, .int .i64 h]] w fun e w' => e = .returned (.tuple #[]) ∧ ClockAt w' g F (u + q * h + 2 * (t - f - q)) (outO F (u + q * h) o (f + q)) ∧ Kept (fun k => k = g) w w' := by
  have hglt := heap_lt hc
  have HC := Lib.hid hc
  clear hc
  obtain ⟨x1, x2, x3⟩ := hx
  obtain ⟨y1, y2⟩ := hh
  have w1 : IntKind.i64.wrap (t - f) = t - f := IntWalk.i64_in _ (by omega)
  have w2 : IntKind.i64.wrap (F - u) = F - u := IntWalk.i64_in _ (by omega)
  have w3 : IntKind.i64.wrap (F - u + h) = F - u + h := IntWalk.i64_in _ (by omega)
  have w4 : IntKind.i64.wrap (F - u + h - 1) = F - u + h - 1 := IntWalk.i64_in _ (by omega)
  have w5 : IntKind.i64.wrap q = q := IntWalk.i64_in _ (by omega)
  have hz : (h == 0) = false := by rw [beq_eq_false_iff_ne]; omega
  have d : (!decide (u < F)) = false := by simp; omega
  have o1 : ∀ y, outO F u o y = o := fun y => by unfold outO; rw [if_pos hu]
  go_enter Try.func35, Try.ntmps35
  go_wp2_with fail
  with_reducible refine (over_any _ g F u o f (HC.out.below ((Below.refl _ _).alloc (Nat.le_refl _) _))).mono ?_
  rintro e v1 ⟨rfl, hc1, hk1⟩
  rw [d]
  rw [o1] at hc1
  have HX1 : Hid (v1.heap[w.heap.size]? = some (.cells #[.int .i64 f, .int .i64 t, .int .i64 h] 28 (0, 0))) := (hk1.block w.heap.size (by simp) (by omega)).trans (at_top rfl)
  obtain ⟨b0, b1, b2⟩ := box3 HX1.out
  obtain ⟨c0, c1, c2, c3⟩ := hc1.cells
  have HC1 := Lib.hid hc1
  have HK1 := Lib.hid hk1
  clear hc1 hk1
  go_wp2_with fail
  go_region
  have HCd : ClockAt v1.drew g F u o := HC1.out
  have qh : 0 ≤ q * h ∧ q * h ≤ 4194304 := by
    have : h = 1 ∨ h = 2 := by omega
    rcases this with e | e <;> rw [e] <;> omega
  have w6 : IntKind.i64.wrap (q * h) = q * h := IntWalk.i64_in _ (by omega)
  have w7 : IntKind.i64.wrap (u + q * h) = u + q * h := IntWalk.i64_in _ (by omega)
  have w8 : IntKind.i64.wrap (f + q) = f + q := IntWalk.i64_in _ (by omega)
  have w9 : IntKind.i64.wrap (t - f - q) = t - f - q := IntWalk.i64_in _ (by omega)
  have w10 : IntKind.i64.wrap (2 * (t - f - q)) = 2 * (t - f - q) := IntWalk.i64_in _ (by omega)
  have w11 : IntKind.i64.wrap (u + q * h + 2 * (t - f - q)) = u + q * h + 2 * (t - f - q) := IntWalk.i64_in _ (by omega)
  generalize hm : q * h = qm at *
  go_wp2_with fail
  go_region
  go_wp2_with fail
  have HCe : ClockAt (v1.setCell ⟨g, 1, none⟩ (.int .i64 (u + qm))).drew.drew g F (u + qm) o := HC1.out.setUsed _
  have HX2 : Hid ((v1.setCell ⟨g, 1, none⟩ (.int .i64 (u + qm))).heap[w.heap.size]? = some (.cells #[.int .i64 f, .int .i64 t, .int .i64 h] 28 (0, 0))) := (Below.heap_setCell v1 ⟨g, 1, none⟩ _ w.heap.size (by simp; omega)).trans HX1.out
  have d2 : (!decide (u + qm < F)) = true := by simp; omega
  with_reducible refine (over_any (v1.setCell ⟨g, 1, none⟩ (.int .i64 (u + qm))).drew.drew g F (u + qm) o (f + q) HCe).mono ?_
  rintro e v2 ⟨rfl, hc2, hk2⟩
  rw [d2]
  obtain ⟨e0, e1, e2, e3⟩ := hc2.cells
  have HC2 := Lib.hid hc2
  have HK2 := Lib.hid hk2
  clear hc2 hk2
  go_wp2_with fail
  go_end0
  subst hm
  exact ⟨rfl, HC2.out.setUsed _, (((((Kept.refl _ w).alloc _).trans HK1.out).setCell (p := ⟨g, 1, none⟩) (.inl rfl) _).drew.drew.trans HK2.out).setCell (p := ⟨g, 1, none⟩) (.inl rfl) _⟩
set_option maxRecDepth 100000 in
set_option maxHeartbeats 2000000 in
theorem take_freeW (w : World) (g : Nat) (F u o f t h q : Int) (hc : ClockAt w g F u o) (hu : u < F) (hF : F ≤ 2097152) (hub : 0 ≤ u ∧ u ≤ 4194304) (hx : 0 ≤ f ∧ f < t ∧ t ≤ 1048576) (hh : 0 < h ∧ h ≤ 2) (hq : Int.tdiv (F - u + h - 1) h = q) (hq0 : 0 ≤ q ∧ q ≤ 2097152) (hlt : t - f ≤ q) :
    Calls Try.prog 35 #[.pointer (some ⟨g, 0, none⟩), .agg #[.int .i64 f, .int .i64 t, .int .i64 h]] w fun e w' => e = .returned (.tuple #[]) ∧ ClockAt w' g F (u + (t - f) * h) (outO F (u + (t - f) * h) o t) ∧ Kept (fun k => k = g) w w' := by
  have hglt := heap_lt hc
  have HC := Lib.hid hc
  clear hc
  obtain ⟨x1, x2, x3⟩ := hx
  obtain ⟨y1, y2⟩ := hh
  have w1 : IntKind.i64.wrap (t - f) = t - f := IntWalk.i64_in _ (by omega)
  have w2 : IntKind.i64.wrap (F - u) = F - u := IntWalk.i64_in _ (by omega)
  have w3 : IntKind.i64.wrap (F - u + h) = F - u + h := IntWalk.i64_in _ (by omega)
  have w4 : IntKind.i64.wrap (F - u + h - 1) = F - u + h - 1 := IntWalk.i64_in _ (by omega)
  have w5 : IntKind.i64.wrap q = q := IntWalk.i64_in _ (by omega)
  have hz : (h == 0) = false := by rw [beq_eq_false_iff_ne]; omega
  have d : (!decide (u < F)) = false := by simp; omega
  have o1 : ∀ y, outO F u o y = o := fun y => by unfold outO; rw [if_pos hu]
  go_enter Try.func35, Try.ntmps35
  go_wp2_with fail
  with_reducible refine (over_any _ g F u o f (HC.out.below ((Below.refl _ _).alloc (Nat.le_refl _) _))).mono ?_
  rintro e v1 ⟨rfl, hc1, hk1⟩
  rw [d]
  rw [o1] at hc1
  have HX1 : Hid (v1.heap[w.heap.size]? = some (.cells #[.int .i64 f, .int .i64 t, .int .i64 h] 28 (0, 0))) := (hk1.block w.heap.size (by simp) (by omega)).trans (at_top rfl)
  obtain ⟨b0, b1, b2⟩ := box3 HX1.out
  obtain ⟨c0, c1, c2, c3⟩ := hc1.cells
  have HC1 := Lib.hid hc1
  have HK1 := Lib.hid hk1
  clear hc1 hk1
  go_wp2_with fail
  go_region
  have HCd : ClockAt v1.drew g F u o := HC1.out
  have qh : 0 ≤ (t - f) * h ∧ (t - f) * h ≤ 4194304 := by
    have : h = 1 ∨ h = 2 := by omega
    rcases this with e | e <;> rw [e] <;> omega
  have w6 : IntKind.i64.wrap ((t - f) * h) = (t - f) * h := IntWalk.i64_in _ (by omega)
  have w7 : IntKind.i64.wrap (u + (t - f) * h) = u + (t - f) * h := IntWalk.i64_in _ (by omega)
  have w8 : IntKind.i64.wrap (f + (t - f)) = t := by rw [IntWalk.i64_in _ (by omega)]; omega
  generalize hm : (t - f) * h = qm at *
  go_wp2_with fail
  go_region
  go_wp2_with fail
  have HCe : ClockAt (v1.setCell ⟨g, 1, none⟩ (.int .i64 (u + qm))).drew.drew g F (u + qm) o := HC1.out.setUsed _
  with_reducible refine (over_any (v1.setCell ⟨g, 1, none⟩ (.int .i64 (u + qm))).drew.drew g F (u + qm) o t HCe).mono ?_
  rintro e v2 ⟨rfl, hc2, hk2⟩
  obtain ⟨e0, e1, e2, e3⟩ := hc2.cells
  have HC2 := Lib.hid hc2
  have HK2 := Lib.hid hk2
  clear hc2 hk2
  by_cases hov : u + qm < F
  · rw [decide_eq_true hov]
    go_wp2_with fail
    go_end0
    subst hm
    exact ⟨rfl, HC2.out, ((((Kept.refl _ w).alloc _).trans HK1.out).setCell (p := ⟨g, 1, none⟩) (.inl rfl) _).drew.drew.trans HK2.out⟩
  · rw [decide_eq_false hov]
    have w9 : IntKind.i64.wrap (t - f - (t - f)) = 0 := by rw [IntWalk.i64_in _ (by omega)]; omega
    have w10 : IntKind.i64.wrap (2 * 0) = 0 := IntWalk.i64_in _ (by omega)
    have w11 : IntKind.i64.wrap (u + qm + 0) = u + qm := by rw [Int.add_zero]; exact IntWalk.i64_in _ (by omega)
    have w12 : IntKind.i64.wrap (u + qm) = u + qm := IntWalk.i64_in _ (by omega)
    go_wp2_with fail
    go_end0
    subst hm
    exact ⟨rfl, HC2.out.setUsed _, (((((Kept.refl _ w).alloc _).trans HK1.out).setCell (p := ⟨g, 1, none⟩) (.inl rfl) _).drew.drew.trans HK2.out).setCell (p := ⟨g, 1, none⟩) (.inl rfl) _⟩

theorem take_any (w : World) (g : Nat) (F u o : Int) (x : St) (hc : ClockAt w g F u o) (hF : 0 ≤ F ∧ F ≤ 2097152) (hub : 0 ≤ u ∧ u ≤ 4194304) (hx : 0 ≤ x.f ∧ x.f < x.t ∧ x.t ≤ 1048576) (hh : 0 ≤ x.h ∧ x.h ≤ 2) :
    Calls Try.prog 35 #[.pointer (some ⟨g, 0, none⟩), stV x] w fun e w' => e = .returned (.tuple #[]) ∧ ClockAt w' g F (takeU F u x) (takeO F u o x) ∧ Kept (fun k => k = g) w w' := by
  by_cases hu : F ≤ u
  · have e1 : takeU F u x = u + 2 * (x.t - x.f) := by unfold takeU; rw [if_pos hu]
    have e2 : takeO F u o x = if o < 0 then x.f else o := by unfold takeO; rw [if_pos hu]
    rw [e1, e2]
    exact take_late w g F u o x hc hu hub hx
  · obtain ⟨f, t, h⟩ := x
    simp only at hx hh
    have hu' : u < F := by omega
    have hfr : frH F u ⟨f, t, h⟩ = if 0 < h then min (t - f) ((F - u + h - 1) / h) else t - f := by unfold frH; rw [if_neg hu]
    have e1 : takeU F u ⟨f, t, h⟩ = if F ≤ u + frH F u ⟨f, t, h⟩ * h then u + frH F u ⟨f, t, h⟩ * h + 2 * (t - f - frH F u ⟨f, t, h⟩) else u + frH F u ⟨f, t, h⟩ * h := by unfold takeU; rw [if_neg hu]
    have e2 : takeO F u o ⟨f, t, h⟩ = outO F (u + frH F u ⟨f, t, h⟩ * h) o (f + frH F u ⟨f, t, h⟩) := by unfold takeO; rw [if_neg hu]
    rw [e1, e2, hfr]
    by_cases h0 : h = 0
    · subst h0
      rw [if_neg (show ¬ (0 : Int) < 0 by omega), Int.mul_zero, Int.add_zero, if_neg hu]
      have : outO F u o (f + (t - f)) = o := by unfold outO; rw [if_pos hu']
      rw [this]
      exact take_free0 w g F u o f t hc hu' hub hx
    · have hp : 0 < h := by omega
      have hq : Int.tdiv (F - u + h - 1) h = (F - u + h - 1) / h := Int.tdiv_eq_ediv_of_nonneg (by omega)
      rw [if_pos hp]
      have h12 : h = 1 ∨ h = 2 := by omega
      have hb : 0 ≤ (F - u + h - 1) / h ∧ (F - u + h - 1) / h ≤ 2097152 ∧ F ≤ u + (F - u + h - 1) / h * h := by rcases h12 with e | e <;> subst e <;> omega
      generalize (F - u + h - 1) / h = q at *
      by_cases hlt : q < t - f
      · rw [Int.min_eq_right (by omega), if_pos hb.2.2]
        exact take_freeH w g F u o f t h q hc hu' hF.2 hub hx ⟨hp, hh.2⟩ hq ⟨hb.1, hb.2.1⟩ hlt hb.2.2
      · rw [Int.min_eq_left (by omega)]
        have h1 : (if F ≤ u + (t - f) * h then u + (t - f) * h + 2 * (t - f - (t - f)) else u + (t - f) * h) = u + (t - f) * h := by split <;> omega
        have h2 : f + (t - f) = t := by omega
        rw [h1, h2]
        exact take_freeW w g F u o f t h q hc hu' hF.2 hub hx ⟨hp, hh.2⟩ hq ⟨hb.1, hb.2.1⟩ (by omega)
end Go.Proofs.Ytpflojfdlmdmfaa
