/- The walk of Used: what all hours use, or what is wrong. -/
import Derived.Test.YtpflojfdlmdmfaaBad
import Derived.Test.YtpflojfdlmdmfaaRun
namespace Go.Proofs.Ytpflojfdlmdmfaa
open Go.RowKit

theorem right_of {ss : Nat → St} {k : Nat} (h : wrongE ss k = 0) : (0 ≤ (ss k).f ∧ (ss k).f < (ss k).t ∧ (ss k).t ≤ 1048576 ∧ 0 ≤ (ss k).h ∧ (ss k).h ≤ 2) ∧ (0 < k → (ss (k - 1)).t = (ss k).f) ∧ k < 4096 := by
  unfold wrongE at h
  split at h
  · omega
  · split at h
    · omega
    · split at h
      · omega
      · rename_i h1 h2 h3
        refine ⟨by omega, fun hk => ?_, by omega⟩
        by_cases he : (ss (k - 1)).t = (ss k).f
        · exact he
        · exact absurd ⟨hk, he⟩ h3

theorem takeU_bounds {F u : Int} {x : St} (hx : x.f < x.t) (hh : 0 ≤ x.h ∧ x.h ≤ 2) : u ≤ takeU F u x ∧ takeU F u x ≤ u + 2 * (x.t - x.f) := by
  have hb := frH_bounds (F := F) (u := u) hx hh
  unfold takeU
  generalize frH F u x = r at *
  have h3 : 0 ≤ r * x.h ∧ r * x.h ≤ 2 * r := by
    have : x.h = 0 ∨ x.h = 1 ∨ x.h = 2 := by omega
    rcases this with e | e | e <;> rw [e] <;> omega
  split
  · omega
  · split <;> omega

theorem runN_bounds {F : Int} {ss : Nat → St} {n : Nat} (h : ∀ j, j < n → wrongE ss j = 0) : ∀ k, k ≤ n → 0 ≤ (runN F ss k).1 ∧ (runN F ss k).1 ≤ (if k = 0 then 0 else 2 * (ss (k - 1)).t) := by
  intro k
  induction k with
  | zero => intro _; simp [runN]
  | succ k ih =>
    intro hk
    have h1 := ih (by omega)
    have h2 := right_of (h k (by omega))
    have h3 := takeU_bounds (F := F) (u := (runN F ss k).1) h2.1.2.1 h2.1.2.2.2
    show 0 ≤ takeU F (runN F ss k).1 (ss k) ∧ takeU F (runN F ss k).1 (ss k) ≤ _
    rw [if_neg (by omega), Nat.add_sub_cancel]
    by_cases hk0 : k = 0
    · rw [if_pos hk0] at h1; omega
    · rw [if_neg hk0, h2.2.1 (by omega)] at h1; omega

/-- What Used tells. -/
def UsedPost (l : La) (ss : Nat → St) (n : Nat) (w : World) (e : Ending) (w' : World) : Prop :=
  ∃ u x, e = .returned (.tuple #[.int .i64 u, .int .i64 x]) ∧ Below w.heap.size w w' ∧
    ((mayB l = false ∧ u = 0 ∧ x = 1) ∨ (mayB l = true ∧ (∃ k, Chk ss n k x ∧ x ≠ 0) ∧ u = 0) ∨ (mayB l = true ∧ Chk ss n n 0 ∧ x = 0 ∧ u = (runN (2 * l.free) ss n).1))

set_option maxHeartbeats 1000000 in
theorem used_any (w : World) (l : La) (A : Option Addr) (n c : Nat) (ss : Nat → St) (hn : n ≤ maxLen) (h : Sts w A n ss) : Calls Try.prog 11 #[laV l, .slice A n c] w (UsedPost l ss n w) := by
  have HS := Lib.hid h
  have HN := Lib.hid hn
  clear h hn
  go_enter Try.func11, Try.ntmps11
  go_wp2_with fail
  refine (bad_any _ l A n c ss HN.out (HS.out.below ((Below.refl _ _).alloc (Nat.le_refl _) _))).mono ?_
  rintro e w1 ⟨x, rfl, hx, hb⟩
  have HB := Lib.hid (((Below.refl _ w).alloc (Nat.le_refl _) (.cells #[.int .i64 l.free, .int .i64 l.late, .int .i64 l.soon] 25)).trans (hb.mono (by simp)))
  have HXX := Lib.hid hx
  have hc := (hb.block w.heap.size (by simp)).trans (heap_alloc_new w (.cells #[.int .i64 l.free, .int .i64 l.late, .int .i64 l.soon] 25))
  obtain ⟨b0, b1, b2⟩ := box3 hc
  clear hb hx hc
  by_cases h0 : x = 0
  · subst h0
    have hr : mayB l = true ∧ Chk ss n n 0 := by
      rcases HXX.out with ⟨_, h⟩ | ⟨hm, k, hk⟩
      · omega
      · obtain ⟨k1, k2, k3⟩ := hk
        rcases k3 with ⟨h4, _⟩ | ⟨_, _, h5⟩
        · subst h4; exact ⟨hm, Nat.le_refl _, k2, .inl ⟨rfl, rfl⟩⟩
        · exact absurd rfl h5
    have hfree : 0 ≤ l.free ∧ l.free ≤ 1048576 := by
      have := hr.1
      unfold mayB at this
      simp at this
      omega
    have hall := hr.2.2.1
    have HE := Lib.hid (run_any w1 l A n c ss hfree.1 hfree.2 HN.out (HS.out.below HB.out) (fun k hk => by
      have h1 := runN_bounds (F := 2 * l.free) hall k (by omega)
      by_cases hk0 : k = 0
      · rw [if_pos hk0] at h1; omega
      · rw [if_neg hk0] at h1
        have := (right_of (hall (k - 1) (by omega))).1
        omega) (fun k hk => (right_of (hall k hk)).1))
    have HR := Lib.hid hr
    clear hr hall hfree
    go_wp2_with fail
    refine HE.out.mono ?_
    rintro e w2 ⟨g, rfl, hg, hc, hb⟩
    obtain ⟨d0, d1, d2, d3⟩ := hc.cells
    have HB2 := Lib.hid (HB.out.trans (hb.mono HB.out.size))
    clear hc hb
    go_wp2_with fail
    go_ret2
    exact ⟨_, _, rfl, HB2.out, .inr (.inr ⟨HR.out.1, HR.out.2, rfl, rfl⟩)⟩
  · have hxb : (x == 0) = false := by rw [beq_eq_false_iff_ne]; exact h0
    have H0 := Lib.hid h0
    clear h0
    go_wp2_with fail
    go_ret2
    refine ⟨_, _, rfl, HB.out, ?_⟩
    rcases HXX.out with ⟨hm, h⟩ | ⟨hm, k, hk⟩
    · exact .inl ⟨hm, rfl, h⟩
    · exact .inr (.inl ⟨hm, ⟨k, hk, H0.out⟩, rfl⟩)
end Go.Proofs.Ytpflojfdlmdmfaa
