/- The walks of the clock: start, over. -/
import Derived.Test.YtpflojfdlmdmfaaBase
import Derived.Laws.OwnMore
namespace Go.Proofs.Ytpflojfdlmdmfaa
open Go.RowKit

/-- Of what was there, all but some blocks is as it was. -/
structure Kept (X : Nat → Prop) (w w' : World) : Prop where
  os : w'.os = w.os
  tape : w'.tape = w.tape
  output : w'.output = w.output
  size : w.heap.size ≤ w'.heap.size
  block : ∀ k, k < w.heap.size → ¬ X k → w'.heap[k]? = w.heap[k]?
theorem Kept.refl (X : Nat → Prop) (w : World) : Kept X w w := ⟨rfl, rfl, rfl, Nat.le_refl _, fun _ _ _ => rfl⟩
theorem Kept.trans {X : Nat → Prop} {a b c : World} (h : Kept X a b) (k : Kept X b c) : Kept X a c :=
  ⟨k.os.trans h.os, k.tape.trans h.tape, k.output.trans h.output, Nat.le_trans h.size k.size, fun i hi hx => (k.block i (Nat.lt_of_lt_of_le hi h.size) hx).trans (h.block i hi hx)⟩
theorem Kept.drew {X : Nat → Prop} {a b : World} (h : Kept X a b) : Kept X a b.drew := ⟨h.os, h.tape, h.output, h.size, h.block⟩
theorem Kept.drewN {X : Nat → Prop} {a b : World} (h : Kept X a b) (n : Nat) : Kept X a (b.drewN n) := ⟨h.os, h.tape, h.output, h.size, h.block⟩
theorem Kept.alloc {X : Nat → Prop} {a b : World} (h : Kept X a b) (o : Obj) : Kept X a (b.alloc o) :=
  h.trans ⟨rfl, rfl, rfl, by simp, fun k hk _ => Below.heap_alloc b o k hk⟩
theorem Kept.setCell {X : Nat → Prop} {a b : World} (h : Kept X a b) {p : Addr} (hp : X p.block ∨ a.heap.size ≤ p.block) (u : Value) : Kept X a (b.setCell p u) :=
  ⟨h.os, h.tape, h.output, by simpa [World.setCell] using h.size, fun k hk hx => (Below.heap_setCell b p u k (by rintro rfl; rcases hp with hp | hp; exact hx hp; omega)).trans (h.block k hk hx)⟩
theorem Kept.of_below {X : Nat → Prop} {w w' : World} (h : Below w.heap.size w w') : Kept X w w' := ⟨h.os, h.tape, h.output, h.size, fun i hi _ => h.block i hi⟩

theorem heap_lt {w : World} {g : Nat} {o : Obj} (h : w.heap[g]? = some o) : g < w.heap.size := by
  rcases Nat.lt_or_ge g w.heap.size with hl | hl
  · exact hl
  · rw [Array.getElem?_eq_none hl] at h; cases h

/-- A clock stands so: what is free, what is used, from which hour on nothing is free. -/
def ClockAt (w : World) (g : Nat) (F u o : Int) : Prop := w.heap[g]? = some (.cells #[.int .i64 F, .int .i64 u, .int .i64 o] 57 (0, 0))
theorem ClockAt.cells {w : World} {g : Nat} {F u o : Int} (h : ClockAt w g F u o) : w.cell? ⟨g, 0, none⟩ = some (.int .i64 F) ∧ w.cell? ⟨g, 1, none⟩ = some (.int .i64 u) ∧ w.cell? ⟨g, 2, none⟩ = some (.int .i64 o) ∧ ∀ j, w.frozen? ⟨g, j, none⟩ = false := by
  unfold ClockAt at h
  refine ⟨?_, ?_, ?_, fun j => by simp [World.frozen?, h]⟩ <;> (rw [cell_of_row w g _ _ _ _ h]; rfl)
theorem ClockAt.below {w w' : World} {g : Nat} {F u o : Int} (h : ClockAt w g F u o) (hb : Below w.heap.size w w') : ClockAt w' g F u o := (hb.block g (heap_lt h)).trans h
theorem ClockAt.drewN {w : World} {g : Nat} {F u o : Int} (h : ClockAt w g F u o) (n : Nat) : ClockAt (w.drewN n) g F u o := h
theorem ClockAt.setUsed {w : World} {g : Nat} {F u o : Int} (h : ClockAt w g F u o) (x : Int) : ClockAt (w.setCell ⟨g, 1, none⟩ (.int .i64 x)) g F x o := heap_setCell_same w g 1 _ _ _ h
theorem ClockAt.setOut {w : World} {g : Nat} {F u o : Int} (h : ClockAt w g F u o) (x : Int) : ClockAt (w.setCell ⟨g, 2, none⟩ (.int .i64 x)) g F u x := heap_setCell_same w g 2 _ _ _ h

set_option maxHeartbeats 1000000 in
theorem start_any (w : World) (l : La) (h0 : 0 ≤ l.free) (h1 : l.free ≤ 1048576) : Calls Try.prog 34 #[laV l] w fun e w' => ∃ g, e = .returned (.pointer (some ⟨g, 0, none⟩)) ∧ w.heap.size ≤ g ∧ ClockAt w' g (2 * l.free) 0 (-1) ∧ Below w.heap.size w w' := by
  obtain ⟨f, a, s⟩ := l
  simp only at h0 h1
  have hw : IntKind.i64.wrap (2 * f) = 2 * f := IntWalk.i64_in _ (by omega)
  go_enter Try.func34, Try.ntmps34
  go_wp2_with fail
  go_ret
  exact ⟨w.heap.size + 1, rfl, by omega, by unfold ClockAt; simpa using heap_alloc_new (w.alloc (.cells #[.int .i64 f, .int .i64 a, .int .i64 s] 25)) (.cells #[.int .i64 (2 * f), .int .i64 0, .int .i64 (-1)] 57), ((Below.refl _ _).alloc (Nat.le_refl _) _).alloc (by simp) _⟩

/-- From which hour on nothing is free. -/
def outO (F u o hour : Int) : Int := if u < F then o else if o < 0 then hour else o

set_option maxHeartbeats 1000000 in
theorem over_any (w : World) (g : Nat) (F u o hour : Int) (h : ClockAt w g F u o) :
    Calls Try.prog 42 #[.pointer (some ⟨g, 0, none⟩), .int .i64 hour] w fun e w' => e = .returned (.bool (!decide (u < F))) ∧ ClockAt w' g F u (outO F u o hour) ∧ Kept (fun k => k = g) w w' := by
  obtain ⟨c0, c1, c2, c3⟩ := h.cells
  have HC := Lib.hid h
  clear h
  unfold outO
  by_cases hu : u < F
  · rw [if_pos hu, decide_eq_true hu]
    go_enter Try.func42, Try.ntmps42
    go_wp2_with fail
    go_quiet (fail)
    go_wp2_with fail
    go_ret
    exact ⟨rfl, HC.out.drewN _, (Kept.refl _ _).drewN _⟩
  · rw [if_neg hu, decide_eq_false hu]
    by_cases ho : o < 0
    · rw [if_pos ho]
      go_enter Try.func42, Try.ntmps42
      go_wp2_with fail
      go_quiet (fail)
      go_wp2_with fail
      go_ret
      exact ⟨rfl, (HC.out.setOut hour).drewN _, ((Kept.refl (fun k => k = g) w).drewN nq).setCell (p := ⟨g, 2, none⟩) (.inl rfl) _⟩
    · rw [if_neg ho]
      go_enter Try.func42, Try.ntmps42
      go_wp2_with fail
      go_quiet (fail)
      go_wp2_with fail
      go_ret
      exact ⟨rfl, HC.out.drewN _, (Kept.refl _ _).drewN _⟩

/-- How many hours of a stretch are free. -/
def frH (F u : Int) (x : St) : Int := if F ≤ u then 0 else if 0 < x.h then min (x.t - x.f) ((F - u + x.h - 1) / x.h) else x.t - x.f
/-- What is used behind a stretch. -/
def takeU (F u : Int) (x : St) : Int :=
  if F ≤ u then u + 2 * (x.t - x.f)
  else if F ≤ u + frH F u x * x.h then u + frH F u x * x.h + 2 * (x.t - x.f - frH F u x) else u + frH F u x * x.h
/-- From which hour on nothing is free, behind a stretch. -/
def takeO (F u o : Int) (x : St) : Int := if F ≤ u then (if o < 0 then x.f else o) else outO F (u + frH F u x * x.h) o (x.f + frH F u x)

theorem frH_bounds {F u : Int} {x : St} (hx : x.f < x.t) (hh : 0 ≤ x.h ∧ x.h ≤ 2) : 0 ≤ frH F u x ∧ frH F u x ≤ x.t - x.f := by
  unfold frH
  split
  · omega
  · split
    · have : x.h = 1 ∨ x.h = 2 := by omega
      rcases this with h | h <;> rw [h] <;> omega
    · omega
end Go.Proofs.Ytpflojfdlmdmfaa
