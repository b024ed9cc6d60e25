/- The walk of netting.pairs on the example's debts. -/
import Derived.Test.YtpflojfdlmdmfaaNetC
namespace Go.Proofs.Ytpflojfdlmdmfaa
open Go.RowKit Go.MapKept Go.ChangeMaps

abbrev e2 : MapEntry := ⟨kAB, .int .i64 2, 0⟩
/-- A range over the one road stands so. -/
structure I1 (v : World) (g r : Nat) (seen : Array Nat) : Prop where
  hg : v.heap[g]? = some (.map #[e2] 1)
  hr : v.heap[r]? = some (.mapIter (some g) 1 seen 1)
  ne : g ≠ r
theorem I1.alloc {v : World} {g r : Nat} {seen : Array Nat} (h : I1 v g r seen) (o : Obj) : I1 (v.alloc o) g r seen := ⟨up1 h.hg, up1 h.hr, h.ne⟩
theorem I1.keep {v v' : World} {g r : Nat} {seen : Array Nat} (h : I1 v g r seen) (h1 : v'.heap[g]? = v.heap[g]?) (h2 : v'.heap[r]? = v.heap[r]?) : I1 v' g r seen := ⟨h1.trans h.hg, h2.trans h.hr, h.ne⟩
theorem l0 : leftOf #[e2] #[] = #[e2] := by kernel_rfl
theorem l1 : leftOf #[e2] #[0] = #[] := by kernel_rfl
theorem I1.first {v : World} {g r : Nat} (h : I1 v g r #[]) : ∃ v1, (Instr.next (.pointer (some ⟨r, 0, none⟩)) false 0).run Try.prog v = .ok (.tuple #[.bool true, kAB, .int .i64 2]) v1 ∧ I1 v1 g r #[0] ∧ ButOne r v v1 := by
  rcases run_next_at (es := #[e2]) (c := 1) r 1 1 #[] h.hr h.hg (by intro x hx; simp at hx; subst hx; decide) (Nat.le_refl _) 0 with ⟨h1, _⟩ | ⟨e, he, v1, h2, h3, h4⟩
  · exact absurd h1 (by rw [l0]; decide)
  · rw [l0] at he
    simp only [List.mem_singleton] at he
    subst he
    exact ⟨v1, h2, ⟨(h4.block g h.ne).trans h.hg, h3, h.ne⟩, h4⟩
theorem I1.last {v : World} {g r : Nat} (h : I1 v g r #[0]) : (Instr.next (.pointer (some ⟨r, 0, none⟩)) false 0).run Try.prog v = .ok (.tuple #[.bool false]) v := by
  rcases run_next_at (es := #[e2]) (c := 1) r 1 1 #[0] h.hr h.hg (by intro x hx; simp at hx; subst hx; decide) (Nat.le_refl _) 0 with ⟨_, h1⟩ | ⟨e, he, _⟩
  · exact h1
  · rw [l1] at he; cases he
theorem I1.ent {v : World} {g r : Nat} (h : I1 v g r #[0]) : (Instr.entry (.pointer (some ⟨r, 0, none⟩))).run Try.prog v = .ok (.tuple #[kAB, .int .i64 2]) v := run_entry_at r 1 #[] e2 h.hr h.hg rfl
theorem I1.begin {w : World} {g : Nat} (h : w.heap[g]? = some (.map #[e2] 1)) : (Instr.range 65 (.map (some g))).run Try.prog w = .ok (.pointer (some ⟨w.heap.size, 0, none⟩)) (w.alloc (.mapIter (some g) 1 #[] 1)) ∧ I1 (w.alloc (.mapIter (some g) 1 #[] 1)) g w.heap.size #[] := by
  refine ⟨run_range_at h, up1 h, at_top' rfl, ?_⟩
  have := lt_of h
  omega

set_option maxRecDepth 100000 in
set_option maxHeartbeats 4000000 in
theorem pairs_any (w : World) (b c : Nat) (h : DebtsAt w b) : Calls Try.prog 32 #[.slice (some ⟨b, 0, none⟩) 2 c] w fun e w' => ∃ g, e = .returned (.tuple #[.map (some g), .int .i64 0]) ∧ w'.heap[g]? = some (.map #[e2] 1) ∧ Below w.heap.size w w' := by
  have HD := Lib.hid h
  clear h
  go_enter Try.func32, Try.ntmps32
  go_wp2_with fail
  refine (dall_any _ b c HD.out).mono ?_
  rintro e w1 ⟨rfl, hb⟩
  have HB1 := Lib.hid hb
  clear hb
  go_wp2_with fail
  refine (paired_any _ b c (HD.out.below HB1.out)).mono ?_
  rintro e w2 ⟨g, rfl, hg, hb⟩
  have HB2 : Hid (Below w.heap.size w w2) := HB1.out.trans (hb.mono HB1.out.size)
  obtain ⟨rg, hi0⟩ := I1.begin hg
  obtain ⟨v1, n1, hi1, hb1⟩ := hi0.first
  have t1 := hi1.ent
  have n2 := hi1.last
  have HG : Hid (v1.heap[g]? = some (.map #[e2] 1)) := hi1.hg
  have HB3 : Hid (Below w.heap.size w v1) := below_butOne (HB2.out.alloc HB2.out.size _) hb1 HB2.out.size
  clear hg hb hi0 hi1 hb1
  go_wp2_with fail
  refine wp_loop_rounds 2 ?_
  refine rounds_go ?_
  go_wp2_with fail
  refine rounds_go ?_
  go_wp2_with fail
  go_ret2
  exact ⟨g, rfl, HG.out, HB3.out⟩
end Go.Proofs.Ytpflojfdlmdmfaa
