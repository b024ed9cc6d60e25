/- The walk of netting.paired on the example's debts: one road, two owed. -/
import Derived.Test.YtpflojfdlmdmfaaNetL
namespace Go.Proofs.Ytpflojfdlmdmfaa
open Go.RowKit Go.MapKept Go.ChangeMaps

set_option maxRecDepth 100000 in
set_option maxHeartbeats 4000000 in
theorem paired_any (w : World) (b c : Nat) (h : DebtsAt w b) : Calls Try.prog 37 #[.slice (some ⟨b, 0, none⟩) 2 c] w fun e w' => ∃ g, e = .returned (.map (some g)) ∧ w'.heap[g]? = some (.map #[⟨kAB, .int .i64 2, 0⟩] 1) ∧ Below w.heap.size w w' := by
  obtain ⟨c0, c1, c2, c3, c4, c5, c6, c7⟩ := h.cells
  have hlt := h.lt
  have HD := Lib.hid h
  obtain ⟨q1, w2, q2, hb2, q3, w3, q4, hb3, hg3⟩ := put_new (w := ((w.alloc (.map #[] 0)).alloc (debtO sA sB 5)).drew) (g := w.heap.size) (k := kAB) 5 (up1 (at_top' rfl)) ck_AB (fk_nil kAB) (fun w => ⟨0, fk_AB _ _ _ w⟩) (by kernel_rfl)
  obtain ⟨e0, e1, e2, e3⟩ := hb2.cell4 (b := w.heap.size + 1) (at_top' (by simp)) (by omega)
  have HG3 : Hid (w3.heap[w.heap.size]? = some (.map #[⟨kAB, .int .i64 5, 0⟩] 1)) := hg3
  have HB3 : Hid (Below w.heap.size w w3) := below_butOne (below_butOne (((Below.refl _ w).alloc (Nat.le_refl _) _).alloc (by simp) _).drew hb2 (by omega)) hb3 (by omega)
  have hsz3 : w3.heap.size = w.heap.size + 1 + 1 := by rw [hb3.size, hb2.size]; simp
  have q4' : (Instr.entryStore 65 (.map (some w.heap.size)) (.int .i64 0) (.int .i64 5)).run Try.prog w2 = .ok () w3 := q4
  clear q4
  have mk0 := run_mk w
  have wr5 : IntKind.i64.wrap 5 = 5 := IntWalk.i64_in _ (by omega)
  have wr3 : IntKind.i64.wrap 3 = 3 := IntWalk.i64_in _ (by omega)
  clear hg3 h
  have HD3 := Lib.hid (HD.out.below HB3.out)
  go_enter Try.func37, Try.ntmps37
  go_wp2_with fail
  refine wp_loop_rounds 3 ?_
  refine rounds_go ?_
  go_upto_region 5 with fail
  go_region
  clear q1 q2 q3 q4' hb2 hb3 e0 e1 e2 e3 mk0 c0 c1 c2 c3 c4 c5 c6 c7
  obtain ⟨_, _, _, _, c4, c5, c6, c7⟩ := HD3.out.cells
  have hg3l := lt_of HG3.out
  obtain ⟨q1, w4, q2, hb4, q3, w5, q4, hb5, hg5⟩ := put_new (w := (w3.alloc (debtO sB sA 3)).drew) (g := w.heap.size) (k := kBA) 3 (up1 HG3.out) ck_BA (fk_BA_AB (.int .i64 5) 0) (fun w => ⟨1, fk_BA2 _ _ _ _ w⟩) (by kernel_rfl)
  obtain ⟨e0, e1, e2, e3⟩ := hb4.cell4 (b := w3.heap.size) (at_top' rfl) (by omega)
  have q2' : (Instr.mapEntry 65 (.map (some w.heap.size)) kBA).run Try.prog (w3.alloc (debtO sB sA 3)).drew = .ok (.tuple #[.int .i64 0, .int .i64 1]) w4 := q2
  have q4' : (Instr.entryStore 65 (.map (some w.heap.size)) (.int .i64 1) (.int .i64 3)).run Try.prog w4 = .ok () w5 := q4
  have HG5 : Hid (w5.heap[w.heap.size]? = some (.map #[eAB, eBA] 2)) := hg5
  have HB5 : Hid (Below w.heap.size w w5) := below_butOne (below_butOne (HB3.out.alloc HB3.out.size _).drew hb4 (Nat.le_refl _)) hb5 (Nat.le_refl _)
  have hsz5 : w.heap.size + 3 ≤ w5.heap.size := by rw [hb5.size, hb4.size]; simp; omega
  clear q2 q4 hg5
  go_wp2_with fail
  refine rounds_go ?_
  go_upto_region 5 with fail
  go_region
  clear q1 q2' q3 q4' hb4 hb5 e0 e1 e2 e3 c4 c5 c6 c7
  have mk1 := run_mk w5
  have rg1 : (Instr.range 65 (.map (some w.heap.size))).run Try.prog (w5.alloc (.map #[] 0)) = .ok (.pointer (some ⟨w5.heap.size + 1, 0, none⟩)) ((w5.alloc (.map #[] 0)).alloc (.mapIter (some w.heap.size) 2 #[] 2)) := by
    have := run_range_at (up1 (o := .map #[] 0) HG5.out)
    rw [World.size_alloc] at this
    exact this
  have I0 : Hid (It ((w5.alloc (.map #[] 0)).alloc (.mapIter (some w.heap.size) 2 #[] 2)) w.heap.size w5.heap.size (w5.heap.size + 1) #[] #[] 0) := ⟨up1 (up1 HG5.out), up1 (at_top' rfl), at_top' (by simp), by omega⟩
  have HBv : Hid (Below w.heap.size w ((w5.alloc (.map #[] 0)).alloc (.mapIter (some w.heap.size) 2 #[] 2))) := (HB5.out.alloc HB5.out.size _).alloc (by simp; omega) _
  have wr2 : IntKind.i64.wrap 2 = 2 := IntWalk.i64_in _ (by omega)
  have wr2' : IntKind.i64.wrap (5 - 3) = 2 := IntWalk.i64_in _ (by omega)
  have wrm : IntKind.i64.wrap (-2) = -2 := IntWalk.i64_in _ (by omega)
  have wrm' : IntKind.i64.wrap (3 - 5) = -2 := IntWalk.i64_in _ (by omega)
  obtain ⟨v0, hv0⟩ : ∃ v0, v0 = (w5.alloc (.map #[] 0)).alloc (.mapIter (some w.heap.size) 2 #[] 2) := ⟨_, rfl⟩
  have hsv : v0.heap.size = w5.heap.size + 2 := by rw [hv0]; simp
  rw [← hv0] at I0 HBv rg1
  clear hv0
  go_wp2_with fail
  refine rounds_go ?_
  go_wp2_with fail
  clear mk1 rg1 wr2 wr2' wrm wrm'
  refine loop2 _ w v0 w.heap.size w.heap.size w5.heap.size (w5.heap.size + 1) _ _ _ _ _ _ _ _ _ _ _ _ _ _ _ _ _ _ _ _ _ _ _ _ _ _ _ _ _ _ _ _ _ _ _ _ _ _ _ _ _ _ _ _ _ _ _ _ _ _ _ _ (Nat.le_refl _) (by omega) (by omega) I0.out HBv.out ?_
  intro y7 y8 y34 y35 y36 y37 y38 y39 y40 y41 y42 y43 y44 y45 y46 y47 y48 y49 y50 y51 y52 y53 y54 v hIt hB
  have HIt : Hid (v.heap[w5.heap.size]? = some (.map #[⟨kAB, .int .i64 2, 0⟩] 1)) := by rcases hIt with h | h <;> exact h.hm
  have HBf := Lib.hid hB
  clear hIt hB
  go_wp2_with fail
  go_ret
  exact ⟨_, rfl, HIt.out, HBf.out⟩
end Go.Proofs.Ytpflojfdlmdmfaa
