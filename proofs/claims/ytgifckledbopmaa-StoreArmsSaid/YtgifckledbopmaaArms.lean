/- The walk of StoreArms: it returns true, old memory is as it was. -/
import Derived.Test.YtgifckledbopmaaOne
import Derived.OpenShut
namespace Go.Proofs.Ytgifckledbopmaa
open Go.RowKit

/-- The store that was armed, behind so many writes of one text. -/
def armS (F : Int) (t : ByteArray) (k : Nat) : Sto :=
  if F < 0 then ⟨List.replicate k t, 0, -1, false⟩ else ⟨List.replicate (min k F.toNat) t, 0, F - (min k F.toNat : Nat), decide (F < k)⟩

theorem armS_zero (F : Int) (t : ByteArray) : (Sto.mk [] 0 (-1) false).arm F = armS F t 0 := by
  unfold Sto.arm armS
  by_cases h : F < 0
  · rw [if_pos h]
    have : max F (-1) = -1 := by omega
    simp [this]
  · rw [if_neg h]
    have : max F (-1) = F := by omega
    have h2 : decide (F < ((0 : Nat) : Int)) = false := by rw [decide_eq_false_iff_not]; omega
    rw [h2]
    simp [this]

theorem armS_neg (F : Int) (t : ByteArray) (k : Nat) (hF : F < 0) : armS F t k = ⟨List.replicate k t, 0, -1, false⟩ := by unfold armS; rw [if_pos hF]
theorem armS_pos (F : Int) (t : ByteArray) (k : Nat) (hF : 0 ≤ F) (hk : (k : Int) ≤ F) : armS F t k = ⟨List.replicate k t, 0, F - k, false⟩ := by
  unfold armS
  rw [if_neg (by omega)]
  have h1 : min k F.toNat = k := by omega
  rw [h1, decide_eq_false (by omega)]
theorem armS_over (F : Int) (t : ByteArray) (k : Nat) (hF : 0 ≤ F) (hk : F < (k : Int)) : armS F t k = ⟨List.replicate F.toNat t, 0, 0, true⟩ := by
  unfold armS
  rw [if_neg (by omega)]
  have h1 : min k F.toNat = F.toNat := by omega
  rw [h1, decide_eq_true (by omega), show F - ((F.toNat : Nat) : Int) = 0 by omega]

theorem arm_done (F : Int) (t : ByteArray) (k : Nat) (ht : t.size ≤ 200) (hk : k < 255) (h : F < 0 ∨ (k : Int) < F) : (armS F t k).write t = (0, armS F t (k + 1)) := by
  unfold Sto.write Sto.burn
  by_cases hF : F < 0
  · rw [armS_neg F t k hF, armS_neg F t (k + 1) hF]
    simp only [Bool.false_eq_true, if_false, List.length_replicate]
    rw [if_neg (by omega), if_neg (by omega), if_neg (by omega), if_neg (by omega), ← List.replicate_succ']
  · rw [armS_pos F t k (by omega) (by omega), armS_pos F t (k + 1) (by omega) (by omega)]
    simp only [Bool.false_eq_true, if_false, List.length_replicate]
    rw [if_neg (by omega), if_neg (by omega), if_neg (by omega), if_pos (by omega), ← List.replicate_succ', show F - (k : Int) - 1 = F - ((k + 1 : Nat) : Int) by omega]

theorem arm_not (F : Int) (t : ByteArray) (k : Nat) (ht : t.size ≤ 200) (hF : 0 ≤ F) (h8 : F ≤ 127) (h : F ≤ (k : Int)) : (armS F t k).write t = (14, armS F t (k + 1)) := by
  unfold Sto.write
  rw [armS_over F t (k + 1) hF (by omega)]
  by_cases h5 : F < (k : Int)
  · rw [armS_over F t k hF h5]; simp
  · rw [armS_pos F t k hF (by omega)]
    simp only [Bool.false_eq_true, if_false, List.length_replicate]
    have : F.toNat = k := by omega
    rw [if_neg (by omega), if_neg (by omega), if_pos (by omega), this, show F - (k : Int) = 0 by omega]

/-- How many were done. -/
def armN (F : Int) (n : Nat) : Nat := if F < 0 then n else min n F.toNat
theorem armS_crash (F : Int) (t : ByteArray) (n : Nat) (hn : n ≤ 255) : (armS F t n).crash 1000 = ⟨List.replicate (armN F n) t, armN F n, -1, false⟩ := by
  unfold Sto.crash Sto.stay armS armN
  by_cases hF : F < 0
  · simp only [if_pos hF, List.length_replicate]
    have : (min (max (1000 : Int) 0) ((n : Int) - ((0 : Nat) : Int))).toNat = n := by omega
    rw [this]; simp
  · simp only [if_neg hF, List.length_replicate]
    have : (min (max (1000 : Int) 0) (((min n F.toNat : Nat) : Int) - ((0 : Nat) : Int))).toNat = min n F.toNat := by omega
    rw [this]; simp

set_option maxRecDepth 100000 in
set_option maxHeartbeats 4000000 in
theorem arms_any (F : Int) (n : Nat) (t : ByteArray) (W : World) (h8 : -128 ≤ F ∧ F ≤ 127) (hn : n ≤ 255) (ht : t.size ≤ maxLen) :
    Calls Try.prog 7 #[.int .i8 F, .int .u8 n, .string t] W fun e w' => e = .returned (.bool true) ∧ Below W.heap.size W w' := by
  unfold maxLen at ht
  obtain ⟨g1, g2⟩ := h8
  by_cases hlong : 200 < t.size
  · go_enter Try.func7, Try.ntmps7
    go_wp2_with (go_at_call 10; refine (awake_any _).mono ?_; rintro e w1 ⟨rfl, hb⟩)
    go_ret
    exact ⟨rfl, hb⟩
  · have ht2 : t.size ≤ 200 := by omega
    go_enter Try.func7, Try.ntmps7
    go_wp2_with fail
    refine (awake_any _).mono ?_
    rintro e w1 ⟨rfl, hb⟩
    go_wp2_with fail
    refine (new1 hb).mono ?_
    rintro e w2 ⟨g, rfl, _, h1⟩
    have hp := fun W => ptr_nil W g
    go_wp2_with fail
    refine (arm1 h1 F (by omega) (armS_zero F t)).mono ?_
    rintro e w3 ⟨rfl, h2⟩
    clear h1 hb
    go_wp2_with fail
    go_loopw [8] (fun i wr => ∃ k : Nat, k ≤ n ∧ i = .int .i64 k ∧ One W g (armS F t k) wr) (fun i _ => n - (intOf i).toNat)
    case atStart => exact ⟨0, by omega, rfl, h2⟩
    case round =>
      clear h2
      obtain ⟨k, hk, rfl, h2⟩ := hrel
      by_cases hlt : k < n
      · by_cases hd : F < 0 ∨ (k : Int) < F
        · have hd2 : F < 0 ∨ ¬ F < 0 ∧ (k : Int) < F := by omega
          have C := Lib.hid (write1 h2 t ht (arm_done F t k ht2 (by omega) hd))
          clear hd h2
          rcases hd2 with hd | ⟨hd, hd3⟩
          all_goals
            go_wp2_with (go_at_call 12; refine C.out.mono ?_; rintro e w4 ⟨rfl, h3⟩)
            exact ⟨⟨k + 1, by omega, by go_num, h3⟩, by simp [intOf]; omega⟩
        · have hd1 : ¬ F < 0 := by omega
          have hd2 : ¬ (k : Int) < F := by omega
          have C := Lib.hid (write1 h2 t ht (arm_not F t k ht2 (by omega) (by omega) (by omega)))
          clear hd h2
          go_wp2_with (go_at_call 12; refine C.out.mono ?_; rintro e w4 ⟨rfl, h3⟩)
          exact ⟨⟨k + 1, by omega, by go_num, h3⟩, by simp [intOf]; omega⟩
      · obtain rfl : k = n := by omega
        have hcr := armS_crash F t k hn
        have hN : armN F k ≤ 255 := by unfold armN; split <;> omega
        have hsy : (Sto.mk (List.replicate (armN F k) t) (armN F k) (-1) false).sync = (0, ⟨List.replicate (armN F k) t, armN F k, -1, false⟩) := by
          unfold Sto.sync Sto.burn
          simp
        by_cases hdn : 0 ≤ F ∧ F < (k : Int)
        · obtain ⟨hd1, hd2⟩ := hdn
          have hst := armS_over F t k hd1 hd2
          have hNF : ((armN F k : Nat) : Int) = F := by unfold armN; rw [if_neg (by omega)]; omega
          rw [hst] at hcr h2
          have HNF := Lib.hid hNF
          clear hst hNF hlt
          go_wp2_with fail
          refine (read1 (n := 14) (x := eS) h2 0 (by rfl)).mono ?_
          rintro e w4 ⟨rfl, h3⟩
          go_wp2_with fail
          refine (down1 (b := true) h3 rfl).mono ?_
          rintro e w5 ⟨rfl, h4⟩
          go_wp2_with fail
          refine (sync1 (n := 14) h4 rfl).mono ?_
          rintro e w6 ⟨rfl, h5⟩
          go_wp2_with fail
          refine (crash1 h5 1000 (by omega) hcr).mono ?_
          rintro e w7 ⟨rfl, h6⟩
          go_wp2_with fail
          refine (down1 (b := false) h6 rfl).mono ?_
          rintro e w8 ⟨rfl, h7⟩
          go_wp2_with fail
          refine (len1 (n := F) h7 (by simp [HNF.out])).mono ?_
          rintro e w9 ⟨rfl, h8⟩
          go_wp2_with fail
          refine (lasting1 (n := F) h8 HNF.out).mono ?_
          rintro e w10 ⟨rfl, h9⟩
          go_wp2_with fail
          refine (sync1 (n := 0) h9 hsy).mono ?_
          rintro e w11 ⟨rfl, h10⟩
          go_wp2_with fail
          go_ret
          exact ⟨rfl, h10.2.1⟩
        · have hdn2 : F < 0 ∨ ¬ F < 0 ∧ (k : Int) ≤ F := by omega
          have hNk : armN F k = k := by unfold armN; split <;> omega
          rw [hNk] at hcr hsy
          have hdw : (armS F t k).down = false := by
            rcases hdn2 with h | ⟨h, h'⟩
            · rw [armS_neg F t k h]
            · rw [armS_pos F t k (by omega) h']
          clear hlt hdn hNk hN
          have hrd : ∃ x m, (armS F t k).read 0 = (x, m) := ⟨_, _, rfl⟩
          obtain ⟨x, m, hrd⟩ := hrd
          have HC := Lib.hid hcr; have HS := Lib.hid hsy; have HD := Lib.hid hdw; have HR := Lib.hid hrd
          clear hcr hsy hdw hrd
          rcases hdn2 with hd | ⟨hd, hd3⟩
          all_goals
            go_wp2_with fail
            refine (read1 h2 0 HR.out).mono ?_
            rintro e w4 ⟨rfl, h3⟩
            go_wp2_with fail
            refine (down1 (b := false) h3 HD.out).mono ?_
            rintro e w5 ⟨rfl, h4⟩
            go_wp2_with fail
            refine (crash1 h4 1000 (by omega) HC.out).mono ?_
            rintro e w7 ⟨rfl, h6⟩
            go_wp2_with fail
            refine (down1 (b := false) h6 rfl).mono ?_
            rintro e w8 ⟨rfl, h7⟩
            go_wp2_with fail
            refine (len1 (n := k) h7 (by simp)).mono ?_
            rintro e w9 ⟨rfl, h8⟩
            go_wp2_with fail
            refine (lasting1 (n := k) h8 rfl).mono ?_
            rintro e w10 ⟨rfl, h9⟩
            go_wp2_with fail
            refine (sync1 (n := 0) h9 HS.out).mono ?_
            rintro e w11 ⟨rfl, h10⟩
            go_wp2_with fail
            go_ret
            exact ⟨rfl, h10.2.1⟩
theorem arms_all (F n : Int) (t : ByteArray) (W : World) (w1 : (Lit.int .i8 F).wf = true) (w2 : (Lit.int .u8 n).wf = true) (ht : t.size ≤ maxLen) :
    Calls Try.prog 7 #[.int .i8 F, .int .u8 n, .string t] W fun e w' => e = .returned (.bool true) ∧ Below W.heap.size W w' := by
  have h1 := bounds_i8 w1
  have h2 := bounds_u8 w2
  obtain ⟨k, rfl⟩ := Int.eq_ofNat_of_zero_le h2.1
  exact arms_any F k t W ⟨h1.1, h1.2⟩ (by omega) ht
end Go.Proofs.Ytgifckledbopmaa
