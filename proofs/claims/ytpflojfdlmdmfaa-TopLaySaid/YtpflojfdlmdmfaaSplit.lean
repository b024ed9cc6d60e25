/- The walk of Split: what both parts use, or what is wrong. -/
import Derived.Test.YtpflojfdlmdmfaaPlainC
import Derived.Test.YtpflojfdlmdmfaaExp
namespace Go.Proofs.Ytpflojfdlmdmfaa
open Go.RowKit

theorem Sts.bnd' {w : World} {A : Option Addr} {n : Nat} {ss : Nat → St} (h : Sts w A n ss) : ∀ j, j < n → i64b (ss j).f ∧ i64b (ss j).t ∧ i64b (ss j).h := fun j hj => by
  obtain ⟨_, _, _, _, _, _, _, h⟩ := h j hj
  exact h

/-- What Split tells. -/
def SplitPost (l : La) (m : Int) (ss : Nat → St) (n : Nat) (w : World) (e : Ending) (w' : World) : Prop :=
  ∃ a b x, e = .returned (.tuple #[.int .i64 a, .int .i64 b, .int .i64 x]) ∧ Below w.heap.size w w' ∧
    ((mayB l = false ∧ a = 0 ∧ b = 0 ∧ x = 1) ∨ (mayB l = true ∧ (∃ k, Chk ss n k x ∧ x ≠ 0) ∧ a = 0 ∧ b = 0) ∨ (mayB l = true ∧ Chk ss n n 0 ∧ x = 0 ∧ a = useN (2 * l.free) m ss n ∧ b = (runN (2 * l.free) ss n).1 - useN (2 * l.free) m ss n))

set_option maxHeartbeats 2000000 in
theorem split_any (w : World) (l : La) (m : Int) (A : Option Addr) (n c : Nat) (ss : Nat → St) (hn : n ≤ maxLen) (hm : i64b m) (h : Sts w A n ss) : Calls Try.prog 10 #[laV l, .int .i64 m, .slice A n c] w (SplitPost l m ss n w) := by
  have HS := Lib.hid h
  have HN := Lib.hid hn
  have HM := Lib.hid hm
  unfold maxLen at hn
  clear h hm
  go_enter Try.func10, Try.ntmps10
  go_wp2_with fail
  refine (used_any _ l A n c ss HN.out (HS.out.below ((Below.refl _ _).alloc (Nat.le_refl _) _))).mono ?_
  rintro e w1 ⟨u, x, rfl, hb, hx⟩
  have HB : Hid (Below w.heap.size w w1) := ((Below.refl _ w).alloc (Nat.le_refl _) (.cells #[.int .i64 l.free, .int .i64 l.late, .int .i64 l.soon] 25)).trans (hb.mono (by simp))
  have HX : Hid (w1.heap[w.heap.size]? = some (.cells #[.int .i64 l.free, .int .i64 l.late, .int .i64 l.soon] 25)) := (hb.block w.heap.size (by simp)).trans (heap_alloc_new w (.cells #[.int .i64 l.free, .int .i64 l.late, .int .i64 l.soon] 25))
  have HXX := Lib.hid hx
  clear hb hx
  by_cases h0 : x = 0
  · subst h0
    have hr : mayB l = true ∧ Chk ss n n 0 ∧ u = (runN (2 * l.free) ss n).1 := by
      rcases HXX.out with ⟨_, _, h⟩ | ⟨_, ⟨_, _, h⟩, _⟩ | ⟨h1, h2, _, h3⟩
      · omega
      · exact absurd rfl h
      · exact ⟨h1, h2, h3⟩
    obtain ⟨hmay, hchk, rfl⟩ := hr
    have hfree := may_free hmay
    have hall := hchk.2.1
    have hn4 : n ≤ 4096 := by
      rcases Nat.lt_or_ge 4096 n with h | h
      · have := (right_of (hall 4096 h)).2.2; omega
      · exact h
    have HA := Lib.hid hall
    have HMay := Lib.hid hmay
    have hub := runN_fits (F := 2 * l.free) hall n (Nat.le_refl _)
    have hvb := useN_bounds (F := 2 * l.free) (m := m) hall n (Nat.le_refl _)
    have hvb' : 0 ≤ useN (2 * l.free) m ss n ∧ useN (2 * l.free) m ss n ≤ 4194304 := by
      refine ⟨hvb.1, ?_⟩
      by_cases hn0 : n = 0
      · rw [if_pos hn0] at hvb; omega
      · rw [if_neg hn0] at hvb
        have := (right_of (hall (n - 1) (by omega))).1
        omega
    have hw : IntKind.i64.wrap ((runN (2 * l.free) ss n).1 - useN (2 * l.free) m ss n) = (runN (2 * l.free) ss n).1 - useN (2 * l.free) m ss n := IntWalk.i64_in _ (by omega)
    have FIN : Hid (∀ w', Below w.heap.size w w' → SplitPost l m ss n w (.returned (.tuple #[.int .i64 (useN (2 * l.free) m ss n), .int .i64 ((runN (2 * l.free) ss n).1 - useN (2 * l.free) m ss n), .int .i64 0])) w') := fun w' hb => ⟨_, _, _, rfl, hb, .inr (.inr ⟨hmay, ⟨Nat.le_refl _, hall, .inl ⟨rfl, rfl⟩⟩, rfl, rfl, rfl⟩)⟩
    clear hub hvb hvb' hchk hall hmay HXX
    go_wp2_with fail
    refine (cut_any w1 m A n c ss (by omega) (HS.out.below HB.out)).mono ?_
    rintro e w2 ⟨A1, k1, c1, A2, k2, c2, rfl, r1, r2, hb⟩
    have HB2 : Hid (Below w.heap.size w w2) := HB.out.trans (hb.mono HB.out.size)
    have HX2 : Hid (w2.heap[w.heap.size]? = some (.cells #[.int .i64 l.free, .int .i64 l.late, .int .i64 l.soon] 25)) := (hb.block w.heap.size (heap_lt HX.out)).trans HX.out
    obtain ⟨b0, b1, b2⟩ := box3 HX2.out
    obtain ⟨e1, f1, s1⟩ := r1.sts (cutA_bnd m HM.out n HS.out.bnd').1
    have hR := cutA_right m HA.out hn4
    have hU := cutA_used (2 * l.free) m HA.out
    rw [← e1] at hU hR
    have HE := Lib.hid (run_any w2 l A1 k1 c1 _ hfree.1 hfree.2 f1 s1 (fun k hk => runN_fits hR k (by omega)) (fun k hk => (right_of (hR k hk)).1))
    have UU := Lib.hid hU
    clear hb r1 r2 e1 f1 s1 hR hU
    go_wp2_with fail
    refine HE.out.mono ?_
    rintro e w3 ⟨g, rfl, hg, hc, hb⟩
    rw [UU.out] at hc
    obtain ⟨d0, d1, d2, d3⟩ := hc.cells
    have HB3 : Hid (Below w.heap.size w w3) := HB2.out.trans (hb.mono HB2.out.size)
    clear hc hb
    generalize useN (2 * l.free) m ss n = v at *
    generalize (runN (2 * l.free) ss n).1 = u at *
    go_wp2_with fail
    exact bodyPost_ret (v := .tuple #[.int .i64 v, .int .i64 (u - v), .int .i64 0]) (by simp [results, Try.results10, go_sem]) rfl (FIN.out _ HB3.out)
  · have hxb : (x == 0) = false := by rw [beq_eq_false_iff_ne]; exact h0
    have H0 := Lib.hid h0
    clear h0
    go_wp2_with fail
    refine bodyPost_ret (v := .tuple #[.int .i64 0, .int .i64 0, .int .i64 x]) (by simp [results, Try.results10, go_sem]) rfl ?_
    refine ⟨_, _, _, rfl, HB.out, ?_⟩
    rcases HXX.out with ⟨hm, _, h⟩ | ⟨hm, ⟨k, hk, _⟩, _⟩ | ⟨_, _, h, _⟩
    · exact .inl ⟨hm, rfl, rfl, h⟩
    · exact .inr (.inl ⟨hm, ⟨k, hk, H0.out⟩, rfl, rfl⟩)
    · exact absurd h H0.out
end Go.Proofs.Ytpflojfdlmdmfaa
