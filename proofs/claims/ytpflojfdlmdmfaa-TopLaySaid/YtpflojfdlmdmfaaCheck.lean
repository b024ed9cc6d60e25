/- The walks of lay.Check and bad: the first wrong stretch. -/
import Derived.Test.YtpflojfdlmdmfaaBase
namespace Go.Proofs.Ytpflojfdlmdmfaa
open Go.RowKit

/-- The first wrong place and its code, or how many there are. -/
def Chk (ss : Nat → St) (n k : Nat) (e : Int) : Prop := k ≤ n ∧ (∀ j, j < k → wrongE ss j = 0) ∧ ((k = n ∧ e = 0) ∨ (k < n ∧ e = wrongE ss k ∧ e ≠ 0))
theorem Chk.unique {ss : Nat → St} {n k k' : Nat} {e e' : Int} (h : Chk ss n k e) (h' : Chk ss n k' e') : k = k' ∧ e = e' := by
  obtain ⟨h1, h2, h3⟩ := h
  obtain ⟨g1, g2, g3⟩ := h'
  have hk : k = k' := by
    rcases Nat.lt_trichotomy k k' with hlt | he | hlt
    · rcases h3 with ⟨h4, _⟩ | ⟨_, h4, h5⟩
      · omega
      · exact absurd (h4.trans (g2 k hlt)) h5
    · exact he
    · rcases g3 with ⟨h4, _⟩ | ⟨_, h4, h5⟩
      · omega
      · exact absurd (h4.trans (h2 k' hlt)) h5
  subst hk
  refine ⟨rfl, ?_⟩
  rcases h3 with ⟨h4, h5⟩ | ⟨h4, h5, h6⟩ <;> rcases g3 with ⟨g4, g5⟩ | ⟨g4, g5, g6⟩
  · rw [h5, g5]
  · omega
  · omega
  · rw [h5, g5]

def CheckPost (ss : Nat → St) (n : Nat) (w : World) (e : Ending) (w' : World) : Prop := ∃ k x, e = .returned (.tuple #[.int .i64 (k : Nat), .int .i64 x]) ∧ Chk ss n k x ∧ Below w.heap.size w w'

set_option maxRecDepth 100000 in
set_option maxHeartbeats 2000000 in
theorem check_any (w : World) (A : Option Addr) (n c : Nat) (ss : Nat → St) (hn : n ≤ maxLen) (h : Sts w A n ss) : Calls Try.prog 16 #[.slice A n c] w (CheckPost ss n w) := by
  have HN := Lib.hid hn
  have HS := Lib.hid h
  unfold maxLen at hn
  clear h
  go_enter Try.func16, Try.ntmps16
  go_wp2_with fail
  go_loopw [8] (fun i wr => ∃ k : Nat, k ≤ n ∧ i = .int .i64 k ∧ (∀ j, j < k → wrongE ss j = 0) ∧ Below w.heap.size w wr) (fun i _ => n - (intOf i).toNat)
  case atStart => exact ⟨0, by omega, rfl, fun j hj => by omega, Below.refl _ _⟩
  case round =>
    obtain ⟨k, hk, rfl, hall, hb⟩ := hrel
    have HALL := Lib.hid hall
    have HB := Lib.hid hb
    clear hall hb
    by_cases hlt : k < n
    · have hlt' : (k : Int) < (n : Int) := by omega
      have HC := Lib.hid (wrong_any wr A n c k ss HN.out hlt (HS.out.below HB.out))
      have HL := Lib.hid hlt
      clear hlt
      by_cases he : wrongE ss k = 0
      · rw [he] at HC
        have HE := Lib.hid he
        clear he
        go_wp2_with fail
        refine HC.out.mono ?_
        rintro e w1 ⟨rfl, hb1⟩
        have HB1 := Lib.hid (HB.out.trans (hb1.mono HB.out.size))
        clear hb1
        go_wp2_with fail
        refine ⟨⟨k + 1, by omega, by go_num, fun j hj => ?_, HB1.out⟩, by simp [intOf]; omega⟩
        rcases Nat.lt_or_ge j k with h1 | h1
        · exact HALL.out j h1
        · have : j = k := by omega
          subst this; exact HE.out
      · generalize hx : wrongE ss k = x at *
        have hxb : (x == 0) = false := by rw [beq_eq_false_iff_ne]; exact he
        have HE := Lib.hid he
        have HX := Lib.hid hx
        clear he hx
        go_wp2_with fail
        refine HC.out.mono ?_
        rintro e w1 ⟨rfl, hb1⟩
        have HB1 := Lib.hid (HB.out.trans (hb1.mono HB.out.size))
        clear hb1
        go_wp2_with fail
        go_ret2
        exact ⟨k, x, rfl, ⟨by omega, HALL.out, .inr ⟨HL.out, HX.out.symm, HE.out⟩⟩, HB1.out⟩
    · have hge : ¬ (k : Int) < (n : Int) := by omega
      have hkn : k = n := by omega
      rw [hkn] at HALL
      clear hlt hkn
      go_wp2_with fail
      go_ret2
      exact ⟨n, 0, rfl, ⟨Nat.le_refl _, HALL.out, .inl ⟨rfl, rfl⟩⟩, HB.out⟩
end Go.Proofs.Ytpflojfdlmdmfaa
