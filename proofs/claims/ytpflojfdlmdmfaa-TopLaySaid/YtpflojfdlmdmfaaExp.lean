/- The walks of Expires and of awake, the chapter's example. -/
import Derived.Test.YtpflojfdlmdmfaaUsed
namespace Go.Proofs.Ytpflojfdlmdmfaa
open Go.RowKit

/-- What Expires tells of right stretches. -/
def ExpPost (l : La) (ss : Nat → St) (n : Nat) (w : World) (e : Ending) (w' : World) : Prop :=
  ∃ o b, e = .returned (.tuple #[.int .i64 o, .bool b]) ∧ Below w.heap.size w w' ∧
    (mayB l = true → Chk ss n n 0 → 0 < n → (if (runN (2 * l.free) ss n).2 < 0 then o = 0 ∧ b = false else o = (runN (2 * l.free) ss n).2 ∧ b = true))

theorem chk_ok {l : La} {ss : Nat → St} {n : Nat} (h : (mayB l = false ∧ (0 : Int) = 1) ∨ (mayB l = true ∧ ∃ k, Chk ss n k 0)) : mayB l = true ∧ Chk ss n n 0 := by
  rcases h with ⟨_, h⟩ | ⟨hm, k, hk⟩
  · omega
  · obtain ⟨k1, k2, k3⟩ := hk
    rcases k3 with ⟨h4, _⟩ | ⟨_, _, h5⟩
    · subst h4; exact ⟨hm, Nat.le_refl _, k2, .inl ⟨rfl, rfl⟩⟩
    · exact absurd rfl h5
theorem may_free {l : La} (h : mayB l = true) : 0 ≤ l.free ∧ l.free ≤ 1048576 := by
  unfold mayB at h
  simp at h
  omega
theorem runN_fits {F : Int} {ss : Nat → St} {n : Nat} (hall : ∀ j, j < n → wrongE ss j = 0) (k : Nat) (hk : k ≤ n) : 0 ≤ (runN F ss k).1 ∧ (runN F ss k).1 ≤ 4194304 := by
  have h1 := runN_bounds (F := F) hall k hk
  by_cases hk0 : k = 0
  · rw [if_pos hk0] at h1; omega
  · rw [if_neg hk0] at h1
    have := (right_of (hall (k - 1) (by omega))).1
    omega

set_option maxHeartbeats 1000000 in
theorem expires_any (w : World) (l : La) (A : Option Addr) (n c : Nat) (ss : Nat → St) (hn : n ≤ maxLen) (h : Sts w A n ss) : Calls Try.prog 24 #[laV l, .slice A n c] w (ExpPost l ss n w) := by
  have HS := Lib.hid h
  have HN := Lib.hid hn
  unfold maxLen at hn
  clear h
  go_enter Try.func24, Try.ntmps24
  go_wp2_with fail
  refine (bad_any _ l A n c ss HN.out (HS.out.below ((Below.refl _ _).alloc (Nat.le_refl _) _))).mono ?_
  rintro e w1 ⟨x, rfl, hx, hb⟩
  have HB := Lib.hid (((Below.refl _ w).alloc (Nat.le_refl _) (.cells #[.int .i64 l.free, .int .i64 l.late, .int .i64 l.soon] 25)).trans (hb.mono (by simp)))
  have HXX := Lib.hid hx
  have hc := (hb.block w.heap.size (by simp)).trans (heap_alloc_new w (.cells #[.int .i64 l.free, .int .i64 l.late, .int .i64 l.soon] 25))
  obtain ⟨b0, b1, b2⟩ := box3 hc
  clear hb hx hc
  by_cases h0 : x = 0
  · subst h0
    have hr := chk_ok HXX.out
    have hfree := may_free hr.1
    have hall := hr.2.2.1
    by_cases hn0 : n = 0
    · subst hn0
      go_wp2_with fail
      go_ret2
      exact ⟨_, _, rfl, HB.out, fun _ _ h => absurd h (by omega)⟩
    · have hnb : ((n : Int) == 0) = false := by rw [beq_eq_false_iff_ne]; omega
      have HE := Lib.hid (run_any w1 l A n c ss hfree.1 hfree.2 HN.out (HS.out.below HB.out) (fun k hk => runN_fits hall k (by omega)) (fun k hk => (right_of (hall k hk)).1))
      clear hr hall hfree
      go_wp2_with fail
      refine HE.out.mono ?_
      rintro e w2 ⟨g, rfl, hg, hc, hb⟩
      obtain ⟨d0, d1, d2, d3⟩ := hc.cells
      have HB2 := Lib.hid (HB.out.trans (hb.mono HB.out.size))
      clear hc hb
      have HP : Hid (∀ o b w', Below w.heap.size w w' → ((if (runN (2 * l.free) ss n).2 < 0 then o = 0 ∧ b = false else o = (runN (2 * l.free) ss n).2 ∧ b = true)) → ExpPost l ss n w (.returned (.tuple #[.int .i64 o, .bool b])) w') := fun o b w' hb h => ⟨o, b, rfl, hb, fun _ _ _ => h⟩
      generalize (runN (2 * l.free) ss n).2 = o at *
      by_cases ho : o < 0
      · have HO := Lib.hid ho
        go_wp2_with fail
        go_ret2
        exact HP.out _ _ _ HB2.out (by rw [if_pos HO.out]; exact ⟨rfl, rfl⟩)
      · have HO := Lib.hid ho
        go_wp2_with fail
        go_ret2
        exact HP.out _ _ _ HB2.out (by rw [if_neg (by omega)]; exact ⟨rfl, rfl⟩)
  · have hxb : (x == 0) = false := by rw [beq_eq_false_iff_ne]; exact h0
    have hno : Hid (¬ (mayB l = true ∧ Chk ss n n 0)) := fun ⟨h1, h2⟩ => by
      rcases HXX.out with ⟨hm, h⟩ | ⟨hm, k, hk⟩
      · rw [hm] at h1; cases h1
      · exact h0 ((hk.unique h2).2)
    clear h0
    go_wp2_with fail
    go_ret2
    exact ⟨_, _, rfl, HB.out, fun h1 h2 _ => absurd ⟨h1, h2⟩ hno.out⟩

def twoS (j : Nat) : St := if j = 0 then ⟨0, 3, 2⟩ else ⟨3, 6, 0⟩
theorem two_chk : Chk twoS 2 2 0 := ⟨Nat.le_refl _, by decide +kernel, .inl ⟨rfl, rfl⟩⟩
theorem two_may : mayB ⟨2, 0, 0⟩ = true := by decide +kernel

theorem two_sts {w : World} {b : Nat} (h : w.heap[b]? = some (.cells #[.int .i64 0, .int .i64 3, .int .i64 2, .int .i64 3, .int .i64 6, .int .i64 0] 28 (0, 0))) : Sts w (some ⟨b, 0, none⟩) 2 twoS := fun j hj => by
  have hlt := heap_lt h
  have hc : ∀ i, w.cell? ⟨b, i, none⟩ = #[Value.int .i64 0, .int .i64 3, .int .i64 2, .int .i64 3, .int .i64 6, .int .i64 0][i]? := fun i => cell_of_row w b i _ _ _ h
  have : j = 0 ∨ j = 1 := by omega
  rcases this with rfl | rfl
  · exact ⟨b, 0, rfl, hlt, hc _, hc _, hc _, by unfold twoS i64b; decide, by unfold twoS i64b; decide, by unfold twoS i64b; decide⟩
  · exact ⟨b, 0, rfl, hlt, hc _, hc _, hc _, by unfold twoS i64b; decide, by unfold twoS i64b; decide, by unfold twoS i64b; decide⟩

theorem up {w : World} {o o' : Obj} {g : Nat} (h : w.heap[g]? = some o') : (w.alloc o).heap[g]? = some o' := (Below.heap_alloc _ _ _ (heap_lt h)).trans h
theorem two_used {w w' : World} {e : Ending} (h : UsedPost ⟨2, 0, 0⟩ twoS 2 w e w') : e = .returned (.tuple #[.int .i64 12, .int .i64 0]) ∧ Below w.heap.size w w' := by
  obtain ⟨u, x, rfl, hb, h⟩ := h
  rcases h with ⟨hm, _⟩ | ⟨_, ⟨k, hk, h0⟩, _⟩ | ⟨_, _, rfl, rfl⟩
  · rw [two_may] at hm; cases hm
  · exact absurd (hk.unique two_chk).2 h0
  · exact ⟨rfl, hb⟩
theorem two_exp {w w' : World} {e : Ending} (h : ExpPost ⟨2, 0, 0⟩ twoS 2 w e w') : e = .returned (.tuple #[.int .i64 2, .bool true]) ∧ Below w.heap.size w w' := by
  obtain ⟨o, b, rfl, hb, h⟩ := h
  have := h two_may two_chk (by omega)
  rw [if_neg (by decide +kernel)] at this
  obtain ⟨rfl, rfl⟩ := this
  exact ⟨rfl, hb⟩

set_option maxHeartbeats 1000000 in
theorem awake_any (w : World) : Calls Try.prog 14 #[] w fun e w' => e = .returned (.bool true) ∧ Below w.heap.size w w' := by
  go_enter Try.func14, Try.ntmps14
  go_wp2_with fail
  refine ((used_any _ ⟨2, 0, 0⟩ _ 2 2 twoS (by simp [maxLen]) (two_sts (b := w.heap.size + 1 + 1 + 1) (at_top (by simp)))).mono fun e w' h => two_used h).mono ?_
  rintro e w1 ⟨rfl, hb⟩
  have h0 : Below w.heap.size w ((((w.alloc (.cells #[.int .i64 2, .int .i64 0, .int .i64 0] 25)).alloc (.cells #[.int .i64 0, .int .i64 3, .int .i64 2] 28)).alloc (.cells #[.int .i64 3, .int .i64 6, .int .i64 0] 28)).alloc (.cells #[.int .i64 0, .int .i64 3, .int .i64 2, .int .i64 3, .int .i64 6, .int .i64 0] 28)) :=
    ((((Below.refl _ w).alloc (Nat.le_refl _) _).alloc (by simp) _).alloc (by simp; omega) _).alloc (by simp; omega) _
  have HB : Hid (Below w.heap.size w w1) := h0.trans (hb.mono (by simp; omega))
  obtain ⟨b0, b1, b2⟩ := box3 ((hb.block w.heap.size (by simp; omega)).trans (up (up (up (at_top (o := .cells #[.int .i64 2, .int .i64 0, .int .i64 0] 25) rfl)))))
  obtain ⟨c0, c1, c2⟩ := box3 ((hb.block (w.heap.size + 1) (by simp)).trans (up (up (at_top (o := .cells #[.int .i64 0, .int .i64 3, .int .i64 2] 28) (by simp)))))
  obtain ⟨d0, d1, d2⟩ := box3 ((hb.block (w.heap.size + 1 + 1) (by simp)).trans (up (at_top (o := .cells #[.int .i64 3, .int .i64 6, .int .i64 0] 28) (by simp))))
  clear hb h0
  go_wp2_with fail
  refine ((expires_any _ ⟨2, 0, 0⟩ _ 2 2 twoS (by simp [maxLen]) (two_sts (b := w1.heap.size) (at_top rfl))).mono fun e w' h => two_exp h).mono ?_
  rintro e w2 ⟨rfl, hb⟩
  have HB2 : Hid (Below w.heap.size w w2) := (HB.out.alloc HB.out.size _).trans (hb.mono (by have := HB.out.size; simp; omega))
  clear hb
  go_wp2_with fail
  go_ret
  exact ⟨rfl, HB2.out⟩
end Go.Proofs.Ytpflojfdlmdmfaa
