/- The walks of the document's answers on terms (Cost, Risk, Needs) and of Same. -/
import Derived.Test.YtlmbdpncbmfopaaDoorNeeds
namespace Go.Proofs.YtlmbdpncbmfopaaDoor
open Go.RowKit

theorem eight (t : Int) (hi : inT t = true) : t = 0 ∨ t = 1 ∨ t = 2 ∨ t = 3 ∨ t = 4 ∨ t = 5 ∨ t = 6 ∨ t = 7 := by
  have := (inT_iff t).1 hi
  omega

set_option maxHeartbeats 400000 in
theorem refcost_in (t : Int) (w : World) (hi : inT t = true) : Calls Tryd.prog 15 #[.int .i64 t] w fun e w' => e = .returned (.int .i64 (costOf t)) ∧ Below w.heap.size w w' := by
  obtain rfl | rfl | rfl | rfl | rfl | rfl | rfl | rfl := eight t hi
  all_goals
    clear hi
    go_enter Tryd.func15, Tryd.ntmps15
    go_wp2
    go_ret
    exact ⟨rfl, (Below.refl _ _).alloc (Nat.le_refl _) _⟩

set_option maxHeartbeats 400000 in
theorem refrisk_in (t : Int) (w : World) (hi : inT t = true) : Calls Tryd.prog 16 #[.int .i64 t] w fun e w' => e = .returned (.int .i64 (riskOf t)) ∧ Below w.heap.size w w' := by
  obtain rfl | rfl | rfl | rfl | rfl | rfl | rfl | rfl := eight t hi
  all_goals
    clear hi
    go_enter Tryd.func16, Tryd.ntmps16
    go_wp2
    go_ret
    exact ⟨rfl, (Below.refl _ _).alloc (Nat.le_refl _) _⟩

theorem cell_one_at {w : World} {x : Value} {t : TypeId} {b : Nat} (hb : b = w.heap.size) : ∀ j u, [x][j]? = some u → (w.alloc (.cells #[x] t)).cell? ((⟨b, 0, none⟩ : Addr).add j) = some u := by
  subst hb
  exact cell_one_new w x t

set_option maxHeartbeats 2000000 in
/-- Needs, the document's, of a term that has a bill of lading and one paper more. -/
theorem refneeds_in (t : Int) (w : World) (hi : inT t = true) : Calls Tryd.prog 18 #[.int .i64 t] w fun e w' => ∃ v, e = .returned v ∧ HasInts w.heap.size w' v (papersOf t) ∧ Below w.heap.size w w' := by
  obtain ⟨i0, hi0, hz0, hz1, hz2⟩ := info_parts info3
  have fin : ∀ (w' : World) (v : Value) (n : Nat) (xs : List Value) (zs : List Int), w'.ownsRow w.heap.size 3 1 v n xs → n = zs.length → xs = ints zs → 0 < zs.length → HasInts w.heap.size w' v zs := by
    intro w' v n xs zs h h1 h2 h3
    subst h1; subst h2
    exact HasInts.of_own h h3 (Nat.le_refl _)
  have FIN := Lib.hid fin
  clear fin
  have hown0 := World.ownsRow_lit (base := w.heap.size) (e := 3) (size := 1) w #[Value.int .i64 0, Value.int .i64 1] 2 (Nat.le_refl _) (by simp [maxLen]) rfl
  have hb0 : Below w.heap.size w (w.alloc (.cells #[Value.int .i64 0, Value.int .i64 1] 3)) := (Below.refl _ _).alloc (Nat.le_refl _) _
  obtain rfl | rfl | rfl | rfl | rfl | rfl | rfl | rfl := eight t hi
  all_goals
    clear hi
    go_enter Tryd.func18, Tryd.ntmps18
    go_wp2_with (first
      | (at_builtin
         refine wpList_append_own _ rfl (.tmp 7) (.tmp 8) _ rfl w.heap.size 3 i0 _ 1 8 Tryd.underlying28 hi0 hz0 hz1 hz2 rfl (by omega) _ _ _ rfl
           (hown0.alloc _) _ 1 1 [Value.int .i64 2] rfl rfl (cell_one_at (by simp)) (by simp [Value.oneCell']) (by simp only [maxLen]; omega) (by omega) (by simp only [World.size_alloc]; omega) ?_
         intro v1 w1 hown1 hg1 _
         have hb1 : Below w.heap.size w w1 := (hb0.alloc hb0.size _).grown hg1 (by simp only [World.size_alloc]; omega) (fun k hk => (hown0.lt k hk).1))
      | (at_builtin
         refine wpList_append_own _ rfl (.tmp 12) (.tmp 13) _ rfl w.heap.size 3 i0 _ 1 8 Tryd.underlying28 hi0 hz0 hz1 hz2 rfl (by omega) _ _ _ rfl
           (hown1.alloc _) _ 1 1 [Value.int .i64 3] rfl rfl (cell_one_at (by simp)) (by simp [Value.oneCell']) (by simp only [maxLen]; omega) (by omega) (by have := hb1.size; simp only [World.size_alloc]; omega) ?_
         intro v2 w2 hown2 hg2 _
         have hb2 : Below w.heap.size w w2 := (hb1.alloc hb1.size _).grown hg2 (by have := hb1.size; simp only [World.size_alloc]; omega) (fun k hk => (hown1.lt k hk).1))
      | (at_builtin
         refine wpList_append_own _ rfl (.tmp 17) (.tmp 18) _ rfl w.heap.size 3 i0 _ 1 8 Tryd.underlying28 hi0 hz0 hz1 hz2 rfl (by omega) _ _ _ rfl
           (hown1.alloc _) _ 1 1 [Value.int .i64 4] rfl rfl (cell_one_at (by simp)) (by simp [Value.oneCell']) (by simp only [maxLen]; omega) (by omega) (by have := hb1.size; simp only [World.size_alloc]; omega) ?_
         intro v2 w2 hown2 hg2 _
         have hb2 : Below w.heap.size w w2 := (hb1.alloc hb1.size _).grown hg2 (by have := hb1.size; simp only [World.size_alloc]; omega) (fun k hk => (hown1.lt k hk).1)))
    go_ret
    first
      | exact ⟨_, rfl, FIN.out _ _ _ _ _ hown2 rfl rfl (by decide +kernel), hb2⟩
      | exact ⟨_, rfl, FIN.out _ _ _ _ _ hown1 rfl rfl (by decide +kernel), hb1⟩
      | exact ⟨_, rfl, FIN.out _ _ _ _ _ hown0 rfl rfl (by decide +kernel), hb0⟩
set_option maxHeartbeats 400000 in
/-- Same, of two slices that hold the same. -/
theorem same_eq {B B' : Nat} (v v' : Value) (zs : List Int) (w : World) (hz : zs.length ≤ 1000) (hv : HasInts B w v zs) (hv' : HasInts B' w v' zs) :
    Calls Tryd.prog 17 #[v, v'] w fun e w' => e = .returned (.bool true) ∧ Below w.heap.size w w' := by
  obtain ⟨g, cap, rfl, _, _, hc⟩ := hv
  obtain ⟨g', cap', rfl, _, _, hc'⟩ := hv'
  have HC := Lib.hid hc
  have HC' := Lib.hid hc'
  clear hc hc'
  go_enter Tryd.func17, Tryd.ntmps17
  go_wp2
  go_loopw [5] (fun i wr => ∃ k : Nat, k ≤ zs.length ∧ i = .int .i64 k ∧ ∃ m, wr = w.drewN m) (fun i _ => zs.length - (intOf i).toNat)
  case atStart => exact ⟨0, by omega, rfl, 0, rfl⟩
  case round =>
    obtain ⟨k, hk, rfl, m, rfl⟩ := hrel
    by_cases hlt : k < zs.length
    · have hku : zs[k]? = some (zs.getD k 0) := by rw [List.getD_eq_getElem?_getD, List.getElem?_eq_getElem hlt]; rfl
      have hcell := HC.out k _ hku
      have hcell' := HC'.out k _ hku
      clear hku
      generalize zs.getD k 0 = u1 at *
      go_wp2
      go_quiet (fail)
      go_wp2
      exact ⟨⟨k + 1, by omega, by go_num, _, rfl⟩, by simp [intOf]; omega⟩
    · go_wp2
      go_ret
      exact ⟨rfl, below_drewN (Below.refl _ _) m⟩
end Go.Proofs.YtlmbdpncbmfopaaDoor
