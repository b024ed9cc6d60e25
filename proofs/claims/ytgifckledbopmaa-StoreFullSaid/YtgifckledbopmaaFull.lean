/- The walk of StoreFull: it returns true, old memory is as it was. -/
import Derived.Test.YtgifckledbopmaaFuse
namespace Go.Proofs.Ytgifckledbopmaa
open Go.RowKit

def fullS (la k : Nat) : Sto := ⟨List.replicate k eS, if la < k then la + 1 else 0, -1, false⟩
theorem full_write (la k : Nat) (hk : k < 4096) (x : ByteArray) (hx : x = eS) : (fullS la k).write x = (0, ⟨List.replicate (k + 1) eS, if la < k then la + 1 else 0, -1, false⟩) := by
  subst hx
  unfold Sto.write Sto.burn fullS
  simp only [Bool.false_eq_true, if_false, List.length_replicate]
  rw [if_neg (by decide), if_neg (by omega), if_neg (by decide), if_neg (by decide), ← List.replicate_succ']
theorem full_sync (L : List ByteArray) (l : Nat) : (Sto.mk L l (-1) false).sync = (0, ⟨L, L.length, -1, false⟩) := by
  unfold Sto.sync Sto.burn
  simp
theorem full_no (l : Nat) (x : ByteArray) (hx : x.size ≤ 4096) : (Sto.mk (List.replicate 4096 eS) l (-1) false).write x = (7, ⟨List.replicate 4096 eS, l, -1, false⟩) := by
  unfold Sto.write
  simp only [Bool.false_eq_true, if_false, List.length_replicate]
  rw [if_neg (by omega), if_pos True.intro]
theorem full_crash' (N n : Nat) : (Sto.mk (List.replicate N eS) N (-1) false).crash n = ⟨List.replicate N eS, N, -1, false⟩ := by
  unfold Sto.crash Sto.stay
  simp only [List.length_replicate]
  have : (min (max (n : Int) 0) ((N : Int) - (N : Int))).toNat = 0 := by omega
  rw [this, Nat.add_zero, List.take_replicate, Nat.min_self]
theorem full_crash (n : Nat) : (Sto.mk (List.replicate 4096 eS) 4096 (-1) false).crash n = ⟨List.replicate 4096 eS, 4096, -1, false⟩ := full_crash' 4096 n
theorem first_ok (n : Nat) (hn : n ≤ 4096) : (Sto.mk [] 0 (-1) false).write (zstr n) = (0, ⟨[zstr n], 0, -1, false⟩) := by
  unfold Sto.write Sto.burn
  simp only [Bool.false_eq_true, if_false, List.length_nil, zstr_size]
  rw [if_neg (by omega), if_neg (by decide), if_neg (by decide), if_neg (by decide)]; rfl
theorem first_no (n : Nat) (hn : 4096 < n) : (Sto.mk [] 0 (-1) false).write (zstr n) = (1, ⟨[], 0, -1, false⟩) := by
  unfold Sto.write
  simp only [Bool.false_eq_true, if_false, zstr_size]
  rw [if_pos hn]

set_option maxRecDepth 100000 in
set_option maxHeartbeats 4000000 in
theorem full_any (la keep n : Nat) (W : World) (h1 : la ≤ 65535) (h2 : keep ≤ 65535) (h3 : n ≤ 65535) :
    Calls Try.prog 4 #[.int .u16 la, .int .u16 keep, .int .u16 n] W fun e w' => e = .returned (.bool true) ∧ Below W.heap.size W w' := by
  go_enter Try.func4, Try.ntmps4
  go_wp2_with fail
  refine (awake_any _).mono ?_
  rintro e w1 ⟨rfl, hb⟩
  go_wp2_with fail
  refine (new1 hb).mono ?_
  rintro e w2 ⟨g, rfl, _, hs⟩
  have hp := fun W => ptr_nil W g
  have hmk := make_zero .u16 n h3 w2
  have hcv := conv_zero n w2
  go_wp2_with fail
  have hsz : (zstr n).size ≤ maxLen := by rw [zstr_size]; simp [maxLen]; omega
  have C : Calls Try.prog 12 #[.pointer (some ⟨g, 0, none⟩), .string (zstr n)] (w2.alloc (.cells (zs n) 5)) fun e w' => e = .returned (.int .i64 (if n ≤ 4096 then 0 else 1)) ∧ Below W.heap.size W w' := by
    by_cases hn : n ≤ 4096
    · rw [if_pos hn]
      exact (write1 (hs.alloc _) (zstr n) hsz (first_ok n hn)).mono fun _ _ h => ⟨h.1, h.2.2.1⟩
    · rw [if_neg hn]
      exact (write1 (hs.alloc _) (zstr n) hsz (first_no n (by omega))).mono fun _ _ h => ⟨h.1, h.2.2.1⟩
  clear hmk hcv hsz hs
  refine C.mono ?_
  clear C
  rintro e w3 ⟨rfl, hb3⟩
  have hcase : ∃ z : Int, (if n ≤ 4096 then (0 : Int) else 1) = z ∧ (z == 0) = decide ((n : Int) ≤ 4096) := by
    by_cases hn : n ≤ 4096
    · exact ⟨0, by rw [if_pos hn], by rw [decide_eq_true (by omega)]; rfl⟩
    · exact ⟨1, by rw [if_neg hn], by rw [decide_eq_false (by omega)]; rfl⟩
  obtain ⟨z, hz, hz2⟩ := hcase
  rw [hz]
  clear hz
  go_wp2_with fail
  refine (new1 hb3).mono ?_
  rintro e w4 ⟨g2, rfl, _, hs⟩
  clear hb hb3 hz2 hp
  go_wp2_with fail
  go_loopw [8] (fun i wr => ∃ k : Nat, k ≤ 4096 ∧ i = .int .i64 k ∧ One W g2 (fullS la k) wr) (fun i _ => 4096 - (intOf i).toNat)
  case atStart => exact ⟨0, by omega, rfl, hs⟩
  case round =>
    clear hs
    obtain ⟨k, hk, rfl, hs⟩ := hrel
    by_cases hlt : k < 4096
    · go_wp2_with fail
      refine (write1 hs eS (by simp [maxLen, ByteArray.size]) (full_write la k hlt _ rfl)).mono ?_
      rintro e w5 ⟨rfl, h5⟩
      clear hs
      by_cases hkl : k = la
      · have hb : ((k : Int) == (la : Int)) = true := by rw [beq_iff_eq]; omega
        have hkl' : Hid (k = la) := hkl
        clear hkl
        go_wp2_with fail
        refine (sync1 h5 (full_sync _ _)).mono ?_
        rintro e w6 ⟨rfl, h6⟩
        clear h5
        go_wp2_with fail
        refine ⟨⟨k + 1, by omega, by go_num, ?_⟩, by simp [intOf]; omega⟩
        have := hkl'.out
        unfold fullS
        rw [if_pos (by omega)]
        rw [List.length_replicate] at h6
        rw [← this]; exact h6
      · have hb : ((k : Int) == (la : Int)) = false := by rw [beq_eq_false_iff_ne]; omega
        have hkl' : Hid (¬ k = la) := hkl
        clear hkl
        go_wp2_with fail
        refine ⟨⟨k + 1, by omega, by go_num, ?_⟩, by simp [intOf]; omega⟩
        have := hkl'.out
        unfold fullS
        by_cases h : la < k
        · rw [if_pos (by omega)]; rw [if_pos h] at h5; exact h5
        · rw [if_neg (by omega)]; rw [if_neg h] at h5; exact h5
    · obtain rfl : k = 4096 := by omega
      unfold fullS at hs
      generalize (if la < 4096 then la + 1 else 0) = l at hs
      have hN : (List.replicate 4096 eS).length = 4096 := List.length_replicate
      have hsy := full_sync (List.replicate 4096 eS) l
      rw [hN] at hsy
      have HSY := Lib.hid hsy
      have HN := Lib.hid hN
      have HW := Lib.hid (full_no l)
      have HW2 := Lib.hid (full_no 4096)
      have HC := Lib.hid full_crash
      clear hsy hN
      generalize List.replicate 4096 eS = L at *
      go_wp2_with fail
      refine (write1 hs eS (by simp [maxLen, ByteArray.size]) (HW.out eS (by decide))).mono ?_
      rintro e w5 ⟨rfl, h5⟩
      go_wp2_with fail
      refine (len1 (n := 4096) h5 (by simp only [HN.out]; rfl)).mono ?_
      rintro e w6 ⟨rfl, h6⟩
      go_wp2_with fail
      refine (sync1 h6 HSY.out).mono ?_
      rintro e w7 ⟨rfl, h7⟩
      go_wp2_with fail
      refine (crash1 h7 keep (by omega) (HC.out keep)).mono ?_
      rintro e w8 ⟨rfl, h8⟩
      go_wp2_with fail
      refine (len1 (n := 4096) h8 (by simp only [HN.out]; rfl)).mono ?_
      rintro e w9 ⟨rfl, h9⟩
      go_wp2_with fail
      refine (write1 h9 ⟨#[120]⟩ (by simp [maxLen, ByteArray.size]) (HW2.out ⟨#[120]⟩ (by decide))).mono ?_
      rintro e w10 ⟨rfl, h10⟩
      go_wp2_with fail
      go_ret
      exact ⟨rfl, h10.2.1⟩

theorem full_all (la keep n : Int) (W : World) (w0 : (Lit.int .u16 la).wf = true) (w1 : (Lit.int .u16 keep).wf = true) (w2 : (Lit.int .u16 n).wf = true) :
    Calls Try.prog 4 #[.int .u16 la, .int .u16 keep, .int .u16 n] W fun e w' => e = .returned (.bool true) ∧ Below W.heap.size W w' := by
  have h0 := bounds_u16 w0
  have h1 := bounds_u16 w1
  have h2 := bounds_u16 w2
  obtain ⟨a, rfl⟩ := Int.eq_ofNat_of_zero_le h0.1
  obtain ⟨b, rfl⟩ := Int.eq_ofNat_of_zero_le h1.1
  obtain ⟨c, rfl⟩ := Int.eq_ofNat_of_zero_le h2.1
  exact full_any a b c W (by omega) (by omega) (by omega)
end Go.Proofs.Ytgifckledbopmaa
